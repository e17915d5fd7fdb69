/-
  The law PageOwns, walked: the node's copy.
-/
import Derived.Test.YtnjdmaeoebihpaaPgJn
import Derived.Test.YtnjdmaeoebihpaaPgCut
import Derived.Deep.DeepCutAuto
import Derived.Deep.RegionHeld
namespace Go.Proofs.Ytnjdmaeoebihpaa
open Go.RowKit Go.Proofs.YtnjdmaeoebihpaaW.PrintWords Go.Proofs.YtnjdmaeoebihpaaW.PrintLast Go.Proofs.YtnjdmaeoebihpaaW.PrintMore
set_option linter.unusedVariables false
set_option linter.unusedSimpArgs false

section
variable {P : Program} {ops : Array Oper} {Q : Exit → Act → World → Prop} {md : Region.Mode} {S : World → Prop}
/-- An operation that yields its value wherever S holds is taken first; the operation told by its parts. -/
theorem takeH {i : Nat} {dst : Option Tmp} {op : Op} {ty : TypeId} {pos : String} {aft : Array _} {g : Option (Nat × Bool)} {v : Value} {fuel : Nat} {listed : Array Bool} {a : Act} {w : World} (hi : ops[i]? = some ⟨dst, op, ty, pos, aft, g⟩)
    (hs : Region.noSelect ops = true) (hf : Region.free md ops listed i = true) (hr : (Region.ready md ops listed).contains i = true)
    (hQ : ∀ c a w, Q (.panic c) (a.put dst v) w → Q (.panic c) a w) (hw : Region.wanted ⟨dst, op, ty, pos, aft, g⟩ (yielded ops a.tmps) = true) (hy : ∀ w, S w → (execOp a.eval ⟨dst, op, ty, pos, aft, g⟩).run P w = .ok (.value v) w) (hS : S w)
    (h : wpAnyH P md ops Q S fuel (listed.setIfInBounds i true) (a.put dst v) w) : wpAnyH P md ops Q S (fuel + 1) listed a w :=
  wpAnyH_take hi hs hf hr hQ (.inl ⟨hw, hy⟩) hS h
end

theorem c3n {w : World} {b : Nat} {leaf : Bool} {A : Option Addr} {n c : Nat} {B : Option Addr} {m d : Nat} (h : w.heap[b]? = some (NodeObj leaf A n c B m d)) : C3 w b leaf A n c B m d := ⟨(cell_of_block h 0).trans rfl, (cell_of_block h 1).trans rfl, (cell_of_block h 2).trans rfl⟩
theorem c3r {w : World} {b : Nat} {leaf : Bool} {A : Option Addr} {n c : Nat} {B : Option Addr} {m d : Nat} (h : w.heap[b]? = some (RNodeObj leaf A n c B m d)) : C3 w b leaf A n c B m d := ⟨(cell_of_block h 0).trans rfl, (cell_of_block h 1).trans rfl, (cell_of_block h 2).trans rfl⟩
theorem rowI_at {w : World} {g base : Nat} (h : w.heap[g]? = some (.cells #[] 3)) (hb : base ≤ g) : w.ownsRow base 3 1 (.slice (some ⟨g, 0, none⟩) 0 0) 0 [] :=
  ⟨rfl, .inr ⟨g, 0, #[], rfl, hb, h, Nat.le_refl _, Nat.zero_le _, rfl, rfl⟩⟩
/-- A node's rows, as what is copied from. -/
theorem rows2_of {w : World} {A : Option Addr} {c : Nat} {l : List ByteArray} {B : Option Addr} {d : Nat} {ks : List Int} (h : RdN w A c l B d ks) (hA : A = none → l = [] ∧ c = 0) (hB : B = none → ks = [] ∧ d = 0) (hl : l.length ≤ 1000000) (hk : ks.length ≤ 1000000) : Rows2 w A c l B d ks := by
  constructor
  · rcases A with _ | ad
    · obtain ⟨rfl, rfl⟩ := hA rfl
      exact .inl ⟨rfl, rfl, rfl⟩
    · refine .inr ⟨ad, rfl, fun j u hj => ?_⟩
      have hlt : j < l.length := by
        rcases Nat.lt_or_ge j l.length with h1 | h1
        · exact h1
        · rw [List.getElem?_eq_none (by rw [scl_len]; omega)] at hj
          cases hj
      obtain ⟨ad2, e2, hc⟩ := Kd.at_string h.recs (j : Int) (by omega) (by omega)
      injection e2 with e2
      subst e2
      rw [Int.toNat_natCast, rdOf_rec] at hc
      rw [hc]
      simp only [scl, List.getElem?_map] at hj
      rw [List.getElem?_eq_getElem hlt] at hj
      simp [rec, hlt]
      simpa using hj
  · rcases B with _ | bd
    · obtain ⟨rfl, rfl⟩ := hB rfl
      exact .inl ⟨rfl, rfl, rfl⟩
    · refine .inr ⟨bd, rfl, fun j u hj => ?_⟩
      have hlt : j < ks.length := by
        rcases Nat.lt_or_ge j ks.length with h1 | h1
        · exact h1
        · rw [List.getElem?_eq_none (by simp [icl]; exact h1)] at hj
          cases hj
      obtain ⟨ad2, e2, hc⟩ := Kd.at_int h.kids (j : Int) (by omega) (by omega)
      injection e2 with e2
      subst e2
      rw [Int.toNat_natCast] at hc
      rw [hc]
      simp only [icl, List.getElem?_map] at hj
      rw [List.getElem?_eq_getElem hlt] at hj
      simp [rd, hlt]
      simpa using hj
/-- The copy stands. -/
structure Was (w wc : World) (b3 : Nat) (leaf : Bool) (A : Option Addr) (c : Nat) (l : List ByteArray) (B : Option Addr) (d : Nat) (ks : List Int) : Prop where
  low : Below w.heap.size w wc
  rno : wc.heap[b3]? = some (RNodeObj leaf A l.length c B ks.length d)
  rs : OwnS wc w.heap.size A c l
  ri : OwnI wc w.heap.size B d ks
theorem Was.below {w wc wd : World} {b3 : Nat} {leaf : Bool} {A : Option Addr} {c : Nat} {l : List ByteArray} {B : Option Addr} {d : Nat} {ks : List Int} (h : Was w wc b3 leaf A c l B d ks) (hb : Below wc.heap.size wc wd) : Was w wd b3 leaf A c l B d ks :=
  ⟨h.low.trans (hb.mono h.low.size), (hb.block _ (lt_of_block h.rno)).trans h.rno, owns_below h.rs hb (Nat.le_refl _), owns_below h.ri hb (Nat.le_refl _)⟩

theorem sub_le {α : Type} (l : List α) (a b : Nat) : (sub l a b).length ≤ l.length := by
  unfold sub
  rw [List.length_take, List.length_drop]
  omega
theorem kidsOf_le (leaf : Bool) (ks : List Int) (a b : Nat) : (kidsOf leaf ks a b).length ≤ ks.length := by
  unfold kidsOf
  split
  · exact Nat.zero_le _
  · exact sub_le _ _ _
/-- Two rows of one's own, in blocks from lo to below hi. -/
structure Ow (w : World) (Z lo hi : Nat) (A : Option Addr) (n c : Nat) (B : Option Addr) (m d : Nat) : Prop where
  s : ∃ xs, w.ownsRow Z 9 1 (.slice A n c) n xs
  i : ∃ ys, w.ownsRow Z 3 1 (.slice B m d) m ys
  sk : ∀ k, (Value.slice A n c).ownBlock = some k → lo ≤ k ∧ k < hi
  ik : ∀ k, (Value.slice B m d).ownBlock = some k → lo ≤ k ∧ k < hi
theorem Ow.chg {w w' : World} {Z lo hi : Nat} {A : Option Addr} {n c : Nat} {B : Option Addr} {m d : Nat} (h : Ow w Z lo hi A n c B m d) {S : Nat → Prop} (hc : Chg S w w') (hS : ∀ k, lo ≤ k → k < hi → ¬ S k) : Ow w' Z lo hi A n c B m d := by
  obtain ⟨xs, hx⟩ := h.s
  obtain ⟨ys, hy⟩ := h.i
  exact ⟨⟨xs, owns_same hx fun k hk => hc.block k (hx.lt k hk).2 (hS k (h.sk k hk).1 (h.sk k hk).2)⟩, ⟨ys, owns_same hy fun k hk => hc.block k (hy.lt k hk).2 (hS k (h.ik k hk).1 (h.ik k hk).2)⟩, h.sk, h.ik⟩
/-- The head of the loop over the three nodes. -/
structure Trio (wc wr : World) (g m1 m2 : Nat) (leaf : Bool) (A1 : Option Addr) (n1 c1 : Nat) (B1 : Option Addr) (k1 d1 : Nat) (A2 : Option Addr) (n2 c2 : Nat) (B2 : Option Addr) (k2 d2 : Nat) (A3 : Option Addr) (n3 c3 : Nat) (B3 : Option Addr) (k3 d3 : Nat) (j : Nat) : Prop where
  low : Below wc.heap.size wc wr
  blk : wr.heap[g]? = some (.cells #[.bool leaf, .slice A1 n1 c1, .slice B1 k1 d1, .bool leaf, .slice A2 n2 c2, .slice B2 k2 d2, .bool leaf, .slice A3 n3 c3, .slice B3 k3 d3] 25)
  a : j < 1 → Ow wr wc.heap.size wc.heap.size m1 A1 n1 c1 B1 k1 d1
  b : j < 2 → Ow wr wc.heap.size m1 m2 A2 n2 c2 B2 k2 d2
  c : j < 3 → Ow wr wc.heap.size m2 g A3 n3 c3 B3 k3 d3
def Rng (lo hi : Nat) (k : Nat) : Prop := lo ≤ k ∧ k < hi
/-- One node of the three. -/
structure OneOf (wc wr : World) (g : Nat) (leaf : Bool) (j : Nat) (lo hi : Nat) (A : Option Addr) (n c : Nat) (B : Option Addr) (k d : Nat) : Prop where
  low : Below wc.heap.size wc wr
  c0 : wr.cell? ⟨g, j * 3, none⟩ = some (.bool leaf)
  c1 : wr.cell? ⟨g, j * 3 + 1, none⟩ = some (.slice A n c)
  c2 : wr.cell? ⟨g, j * 3 + 2, none⟩ = some (.slice B k d)
  ow : Ow wr wc.heap.size lo hi A n c B k d
  lo : wc.heap.size ≤ lo
  hi : hi ≤ wr.heap.size
  gw : g < wr.heap.size
theorem Trio.one {wc wr : World} {g m1 m2 : Nat} {leaf : Bool} {A1 : Option Addr} {n1 c1 : Nat} {B1 : Option Addr} {k1 d1 : Nat} {A2 : Option Addr} {n2 c2 : Nat} {B2 : Option Addr} {k2 d2 : Nat} {A3 : Option Addr} {n3 c3 : Nat} {B3 : Option Addr} {k3 d3 : Nat} {j N : Nat} (h : Trio wc wr g m1 m2 leaf A1 n1 c1 B1 k1 d1 A2 n2 c2 B2 k2 d2 A3 n3 c3 B3 k3 d3 j) (hj : j < 3) (h1 : wc.heap.size ≤ m1) (h2 : m1 ≤ m2) (h3 : m2 ≤ g) (hn1 : n1 ≤ N) (hn2 : n2 ≤ N) (hn3 : n3 ≤ N) (hk1 : k1 ≤ N) (hk2 : k2 ≤ N) (hk3 : k3 ≤ N) :
    ∃ lo hi A n c B k d, n ≤ N ∧ k ≤ N ∧ OneOf wc wr g leaf j lo hi A n c B k d ∧ ∀ wz, Chg (Rng lo hi) wr wz → Trio wc wz g m1 m2 leaf A1 n1 c1 B1 k1 d1 A2 n2 c2 B2 k2 d2 A3 n3 c3 B3 k3 d3 (j + 1) := by
  have hg := lt_of_block h.blk
  have cells : ∀ i : Nat, wr.cell? ⟨g, i, none⟩ = (#[.bool leaf, .slice A1 n1 c1, .slice B1 k1 d1, .bool leaf, .slice A2 n2 c2, .slice B2 k2 d2, .bool leaf, .slice A3 n3 c3, .slice B3 k3 d3] : Array Value)[i]? := fun i => cell_of_block h.blk i
  have low : ∀ (lo hi : Nat) (wz : World), wc.heap.size ≤ lo → Chg (Rng lo hi) wr wz → Below wc.heap.size wc wz := fun lo hi wz hl hc => h.low.trans (hc.below (fun i hi2 hr => by have := hr.1; omega) h.low.size)
  have keep : ∀ (lo hi : Nat) (wz : World), hi ≤ g → Chg (Rng lo hi) wr wz → wz.heap[g]? = _ := fun lo hi wz hl hc => (hc.block g hg (fun hr => by have := hr.2; omega)).trans h.blk
  obtain rfl | rfl | rfl : j = 0 ∨ j = 1 ∨ j = 2 := by omega
  · refine ⟨_, _, A1, n1, c1, B1, k1, d1, hn1, hk1, ⟨h.low, (cells 0).trans rfl, (cells 1).trans rfl, (cells 2).trans rfl, h.a (by omega), Nat.le_refl _, by omega, hg⟩, fun wz hc => ⟨low _ _ wz (Nat.le_refl _) hc, keep _ _ wz (by omega) hc, fun h0 => by omega, fun _ => (h.b (by omega)).chg hc (fun k ha hb hr => by have := hr.2; omega), fun _ => (h.c (by omega)).chg hc (fun k ha hb hr => by have := hr.2; omega)⟩⟩
  · refine ⟨_, _, A2, n2, c2, B2, k2, d2, hn2, hk2, ⟨h.low, (cells 3).trans rfl, (cells 4).trans rfl, (cells 5).trans rfl, h.b (by omega), h1, by omega, hg⟩, fun wz hc => ⟨low _ _ wz h1 hc, keep _ _ wz (by omega) hc, fun h0 => by omega, fun h0 => by omega, fun _ => (h.c (by omega)).chg hc (fun k ha hb hr => by have := hr.2; omega)⟩⟩
  · refine ⟨_, _, A3, n3, c3, B3, k3, d3, hn3, hk3, ⟨h.low, (cells 6).trans rfl, (cells 7).trans rfl, (cells 8).trans rfl, h.c (by omega), by omega, by omega, hg⟩, fun wz hc => ⟨low _ _ wz (by omega) hc, keep _ _ wz (by omega) hc, fun h0 => by omega, fun h0 => by omega, fun h0 => by omega⟩⟩

/-- 'append(v, x)', x just laid: the new slice lies where the old one did, or in a new block. -/
theorem step_push_at {T e : TypeId} {z : Value} {size bytes : Nat} {i0 : TypeInfo} (E : Elt T e z size bytes i0) {w : World} {base n : Nat} {v : Value} {xs : List Value} {ops : Array Oper} {rest : List Oper} {o : Oper} {x : Act} {Q : Exit → Act → World → Prop} (hgd : o.guard = none) (s t : Operand)
    (ho : o.op = .call { callee := .builtin .append, args := #[s, t], argTypes := #[T, T] }) (hown : w.ownsRow base e size v n xs) (hs : x.eval s = v) (news : Array Value) {k : Nat} (ht : x.eval t = .slice (some ⟨k, 0, none⟩) 1 1) (hk : k = w.heap.size)
    (hl : news.size = size) (h1 : ∀ u ∈ news.toList, u.oneCell' = true) (hn : n ≤ 1000000) (hbase : base ≤ w.heap.size)
    (hK : ∀ g c' w2, w2.ownsRow base e size (.slice (some ⟨g, 0, none⟩) (n + 1) c') (n + 1) (xs ++ news.toList) → (w.alloc (.cells news e)).grownBy w2 v.ownBlock → (v.ownBlock = some g ∨ w.heap.size ≤ g) → wpList Try.prog ops Q rest (x.put o.dst (.slice (some ⟨g, 0, none⟩) (n + 1) c')) w2) :
    wpList Try.prog ops Q (o :: rest) x (w.alloc (.cells news e)) := by
  subst hk
  have hbytes : (n + 1) * bytes ≤ 1000001 * 1000 := Nat.mul_le_mul (by omega) E.small
  refine wpList_append_lies _ hgd s t T ho base e i0 z size bytes E.und E.info E.zero E.hsize E.hbytes E.zs E.pos v n xs hs (hown.alloc _) ⟨w.heap.size, 0, none⟩ 1 1 news.toList ht (by simp [hl]) (World.news_of_block (heap_alloc_new _ _)) h1 (by omega) (by simp only [maxLen]; omega) (by omega) (by simp; omega) _ rfl ?_
  intro g cap w2 h2 h3 h4 _
  exact hK g cap w2 h2 h3 (h4.imp id (fun e => by rw [e]; simp))
/-- A node's variable whose rows are written over. -/
structure Pr (wr ws : World) (Z lo hi bx : Nat) (leaf : Bool) (g1 n e1 g2 m e2 : Nat) : Prop where
  x : ws.heap[bx]? = some (.cells #[.bool leaf, .slice (some ⟨g1, 0, none⟩) n e1, .slice (some ⟨g2, 0, none⟩) m e2] 25)
  s : ∃ xs, ws.ownsRow Z 9 1 (.slice (some ⟨g1, 0, none⟩) n e1) n xs
  i : ∃ ys, ws.ownsRow Z 3 1 (.slice (some ⟨g2, 0, none⟩) m e2) m ys
  c : Chg (Rng lo hi) wr ws
  z : Z ≤ ws.heap.size
  r1 : wr.heap.size ≤ g1 ∨ Rng lo hi g1
  r2 : wr.heap.size ≤ g2 ∨ Rng lo hi g2
section
variable {wr ws : World} {Z lo hi bx : Nat} {leaf : Bool} {g1 n e1 g2 m e2 : Nat}
theorem Pr.setS (h : Pr wr ws Z lo hi bx leaf g1 n e1 g2 m e2) (j : Nat) (u : Value) : Pr wr (ws.setCell ⟨g1, j, none⟩ u) Z lo hi bx leaf g1 n e1 g2 m e2 := by
  obtain ⟨xs, hx⟩ := h.s
  obtain ⟨ys, hy⟩ := h.i
  obtain ⟨a, b⟩ := hx.stored j u
  have hF := Frm.grownOwn (T := fun t => t = 9) hx (v := .slice (some ⟨g1, 0, none⟩) n e1) b rfl h.z
  exact ⟨hF.keep _ _ _ _ h.x (by decide), ⟨_, a⟩, ⟨_, hF.owns hy (by decide)⟩, h.c.setCell h.r1 j u, Nat.le_trans h.z hF.low.size, h.r1, h.r2⟩
theorem Pr.setI (h : Pr wr ws Z lo hi bx leaf g1 n e1 g2 m e2) (j : Nat) (u : Value) : Pr wr (ws.setCell ⟨g2, j, none⟩ u) Z lo hi bx leaf g1 n e1 g2 m e2 := by
  obtain ⟨xs, hx⟩ := h.s
  obtain ⟨ys, hy⟩ := h.i
  obtain ⟨a, b⟩ := hy.stored j u
  have hF := Frm.grownOwn (T := fun t => t = 3) hy (v := .slice (some ⟨g2, 0, none⟩) m e2) b rfl h.z
  exact ⟨hF.keep _ _ _ _ h.x (by decide), ⟨_, hF.owns hx (by decide)⟩, ⟨_, a⟩, h.c.setCell h.r2 j u, Nat.le_trans h.z hF.low.size, h.r1, h.r2⟩
theorem Pr.cellS (h : Pr wr ws Z lo hi bx leaf g1 n e1 g2 m e2) (j : Nat) (hj : j < n) : ∃ u, ws.cell? ⟨g1, j, none⟩ = some u ∧ ws.frozen? ⟨g1, j, none⟩ = false := by
  obtain ⟨xs, hx⟩ := h.s
  have hl : xs.length = n * 1 := hx.1
  refine ⟨xs[j]'(by omega), ?_, hx.frozenAt j⟩
  rw [hx.cellAt j (by omega), List.getElem?_eq_getElem]
theorem Pr.cellI (h : Pr wr ws Z lo hi bx leaf g1 n e1 g2 m e2) (j : Nat) (hj : j < m) : ∃ u, ws.cell? ⟨g2, j, none⟩ = some u ∧ ws.frozen? ⟨g2, j, none⟩ = false := by
  obtain ⟨ys, hy⟩ := h.i
  have hl : ys.length = m * 1 := hy.1
  refine ⟨ys[j]'(by omega), ?_, hy.frozenAt j⟩
  rw [hy.cellAt j (by omega), List.getElem?_eq_getElem]
end

set_option maxRecDepth 100000 in
set_option maxHeartbeats 8000000 in
theorem pageOwns_any (leaf : Bool) (A : Option Addr) (c : Nat) (l : List ByteArray) (B : Option Addr) (d : Nat) (ks : List Int) (w : World) (hr : RdN w A c l B d ks) (hA : A = none → l = [] ∧ c = 0) (hB : B = none → ks = [] ∧ d = 0) :
    Calls Try.prog 8 #[.agg #[.bool leaf, .slice A l.length c, .slice B ks.length d]] w fun e w' => e = .returned (.bool true) ∧ Below w.heap.size w w' := by
  have hnot := @unary_not Try.prog
  obtain ⟨iN, EN⟩ := elt_N
  obtain ⟨iI, EI⟩ := elt_I
  have HR := Lib.hid hr
  have HAN := Lib.hid hA
  have HBN := Lib.hid hB
  have hrc := hr.rc
  have hkc := hr.kc
  clear hr hA hB
  have hblk := heap_alloc_new w (NodeObj leaf A l.length c B ks.length d)
  obtain ⟨w1, hw1⟩ : ∃ w1, w1 = w.alloc (.cells #[.bool leaf, .slice A l.length c, .slice B ks.length d] 25) := ⟨_, rfl⟩
  replace hblk : w1.heap[w.heap.size]? = some (NodeObj leaf A l.length c B ks.length d) := by rw [hw1]; exact hblk
  have HB1 : Hid (Below w.heap.size w w1) := (by rw [hw1]; exact (Below.refl _ _).alloc (Nat.le_refl _) _ : Below w.heap.size w w1)
  have HBK1 := Lib.hid hblk
  clear hblk
  go_enter Try.func8, Try.ntmps8
  go_upto_region 1 with (fail)
  rw [← hw1]
  clear hw1
  go_wp2_with fail
  refine (awake_any _).mono ?_
  rintro e w2 ⟨rfl, hb2⟩
  have HB2 := Lib.hid (HB1.out.trans (hb2.mono HB1.out.size))
  have HBK2 := Lib.hid ((hb2.block _ (lt_of_block HBK1.out)).trans HBK1.out)
  clear hb2 HB1 HBK1
  obtain ⟨n0, n1, n2, f0, f1, f2, nl⟩ := three_of_block HBK2.out
  go_wp2_with fail
  refine (great_any leaf A c l B d ks _ (HR.out.below HB2.out)).mono ?_
  rintro e w3 ⟨g, rfl, hg, hb3⟩
  have HB3 := Lib.hid (HB2.out.trans (hb3.mono HB2.out.size))
  have HBK3 := Lib.hid ((hb3.block _ nl).trans HBK2.out)
  have HG := Lib.hid hg
  clear hg hb3 n0 n1 n2 f0 f1 f2 nl HB2 HBK2
  cases g with
  | true =>
    go_wp2_with fail
    go_ret
    exact ⟨rfl, HB3.out⟩
  | false =>
  have HSM := Lib.hid (HG.out rfl)
  have HBD : Hid (Bd l ks) := HSM.out.bd
  obtain ⟨n0, n1, n2, f0, f1, f2, nl⟩ := three_of_block HBK3.out
  go_wp2_with fail
  refine (plain_any leaf A l.length c B ks.length d _).mono ?_
  rintro e w4 ⟨rfl, hb4⟩
  have HB4 := Lib.hid (HB3.out.trans (hb4.mono HB3.out.size))
  have HBK4 := Lib.hid ((hb4.block _ nl).trans HBK3.out)
  clear hb4 n0 n1 n2 f0 f1 f2 nl HB3 HBK3
  go_wp2_with fail
  refine (rshaped_any leaf A c l B d ks _ (HR.out.below HB4.out) (Nat.le_trans HSM.out.len (by omega)) (Nat.le_trans HSM.out.kids (by omega))).mono ?_
  rintro e w5 ⟨b, rfl, hsh, hb5⟩
  have HB5 := Lib.hid (HB4.out.trans (hb5.mono HB4.out.size))
  have HBK5 := Lib.hid ((hb5.block _ (lt_of_block HBK4.out)).trans HBK4.out)
  have HSH := Lib.hid hsh
  clear hsh hb5 HB4 HBK4
  cases b with
  | false =>
    go_wp2_with fail
    go_ret
    exact ⟨rfl, HB5.out⟩
  | true =>
  have HSHP : Hid (Shp leaf l ks) := (of_eq_true (by simpa using HSH.out) : Shp leaf l ks)
  have hl400 := HSM.out.len
  have hk400 := HSM.out.kids
  obtain ⟨n0, n1, n2, f0, f1, f2, nl⟩ := three_of_block HBK5.out
  by_cases hlt3 : l.length < 3
  · have hlt3b : decide ((l.length : Int) < 3) = true := decide_eq_true (by omega)
    have hlt3c : (l.length : Int) < 3 := by omega
    go_wp2_with fail
    go_ret
    exact ⟨rfl, HB5.out⟩
  have hlt3b : decide ((l.length : Int) < 3) = false := decide_eq_false (by omega)
  have hlt3c : ¬ (l.length : Int) < 3 := by omega
  have HLEN : Hid (if leaf = true then 2 ≤ l.length else 3 ≤ l.length ∧ ks.length = l.length + 1) := (by
    cases leaf with
    | true => rw [if_pos rfl]; omega
    | false => rw [if_neg (by decide)]; exact ⟨by omega, HSHP.out.len⟩ : if leaf = true then 2 ≤ l.length else 3 ≤ l.length ∧ ks.length = l.length + 1)
  have HSRC := Lib.hid (rows2_of (HR.out.below HB5.out) HAN.out HBN.out (by omega) (by omega))
  have HNB : Hid (w.heap.size < w5.heap.size) := lt_of_block HBK5.out
  go_upto_region 5 with (fail)
  clear hlt3b hlt3c n0 n1 n2 f0 f1 f2 nl HG HSH
  go_cut [3] (fun v wc => ∃ b3 A9 c9 B9 d9, v = .pointer (some ⟨b3, 0, none⟩) ∧ Hid (Was w5 wc b3 leaf A9 c9 l B9 d9 ks))
  case first =>
    have HB : Hid (Below w5.heap.size w5 w5.drew) := below_drewN (Below.refl _ _) 1
    have HN0 : Hid (w5.drew.heap[w.heap.size]? = some (NodeObj leaf A l.length c B ks.length d)) := HBK5.out
    have hS0 := c3n HN0.out
    refine wp_region_held_drew (S := (fun w' => C3 w' w.heap.size leaf A l.length c B ks.length d)) (by kernel_rfl) hS0 (fun hHeld => ?_)
    obtain ⟨z0, hz0⟩ : ∃ z0, z0 = w5.drew := ⟨_, rfl⟩
    rw [← hz0] at HB HN0 hHeld ⊢
    clear hz0 hS0
    refine takeH (i := 0) (v := (.pointer (some ⟨w.heap.size, 0, none⟩))) rfl (by kernel_rfl) (by kernel_rfl) (by kernel_rfl) (fun _ _ _ h => h) (by rfl) (by intro w hSw; (try dsimp only at hSw); go_simp) (by assumption) ?_
    (try simp only [Nat.zero_add, Act.put, List.setIfInBounds_toArray, List.set_cons_zero, List.set_cons_succ])
    refine takeH (i := 1) (v := (.bool leaf)) rfl (by kernel_rfl) (by kernel_rfl) (by kernel_rfl) (fun _ _ _ h => h) (by rfl) (by intro w hSw; (try dsimp only at hSw); go_simp) (by assumption) ?_
    (try simp only [Nat.zero_add, Act.put, List.setIfInBounds_toArray, List.set_cons_zero, List.set_cons_succ])
    refine takeH (i := 3) (v := (.pointer (some ⟨w.heap.size, 1, none⟩))) rfl (by kernel_rfl) (by kernel_rfl) (by kernel_rfl) (fun _ _ _ h => h) (by rfl) (by intro w hSw; (try dsimp only at hSw); go_simp) (by assumption) ?_
    (try simp only [Nat.zero_add, Act.put, List.setIfInBounds_toArray, List.set_cons_zero, List.set_cons_succ])
    refine takeH (i := 4) (v := (.slice A l.length c)) rfl (by kernel_rfl) (by kernel_rfl) (by kernel_rfl) (fun _ _ _ h => h) (by rfl) (by intro w hSw; (try dsimp only at hSw); go_simp) (by assumption) ?_
    (try simp only [Nat.zero_add, Act.put, List.setIfInBounds_toArray, List.set_cons_zero, List.set_cons_succ])
    refine takeH (i := 7) (v := (.pointer (some ⟨w.heap.size, 2, none⟩))) rfl (by kernel_rfl) (by kernel_rfl) (by kernel_rfl) (fun _ _ _ h => h) (by rfl) (by intro w hSw; (try dsimp only at hSw); go_simp) (by assumption) ?_
    (try simp only [Nat.zero_add, Act.put, List.setIfInBounds_toArray, List.set_cons_zero, List.set_cons_succ])
    refine takeH (i := 8) (v := (.slice B ks.length d)) rfl (by kernel_rfl) (by kernel_rfl) (by kernel_rfl) (fun _ _ _ h => h) (by rfl) (by intro w hSw; (try dsimp only at hSw); go_simp) (by assumption) ?_
    (try simp only [Nat.zero_add, Act.put, List.setIfInBounds_toArray, List.set_cons_zero, List.set_cons_succ])
    refine wpAnyH_ready (rs := [2, 6, 11]) (by kernel_rfl) (by simp) ?_
    refine AllReadyH.cons rfl (fun KK hKK => ?_) (AllReadyH.cons rfl (fun KK hKK => ?_) (AllReadyH.cons rfl (fun KK hKK => ?_) (AllReadyH.nil)))
    · skip
      go_simp
      have hA := heap_alloc_new z0 (.cells #[] 9)
      have hF : Frm (fun _ => False) w5.heap.size z0 (z0.alloc (.cells #[] 9)) := Frm.alloc (Frm.refl _ _ _) HB.out.size _
      refine hKK.out _ (z0.alloc (.cells #[] 9)) (c3n (hF.keep _ _ _ _ HN0.out id)) (fun hHeld => ?_)
      clear hKK KK
      (try simp only [Nat.zero_add, Act.put, List.setIfInBounds_toArray, List.set_cons_zero, List.set_cons_succ])
      obtain ⟨z1, hZ⟩ : ∃ z1, z1 = z0.alloc (.cells #[] 9) := ⟨_, rfl⟩
      rw [← hZ] at hA hF hHeld ⊢
      obtain ⟨g2, hg⟩ : ∃ g, g = z0.heap.size := ⟨_, rfl⟩
      have HG2 : Hid (w5.heap.size ≤ g2) := (by rw [hg]; exact HB.out.size : w5.heap.size ≤ g2)
      rw [← hg] at hA ⊢
      replace HB := Lib.hid (HB.out.trans hF.low)
      replace HN0 := Lib.hid (hF.keep _ _ _ _ HN0.out id)
      have H2 := Lib.hid (rowN_at hA HG2.out)
      clear hZ hg hA hF
      refine wpAnyH_ready (rs := [5, 6, 11]) (by kernel_rfl) (by simp) ?_
      refine AllReadyH.cons rfl (fun KK hKK => ?_) (AllReadyH.cons rfl (fun KK hKK => ?_) (AllReadyH.cons rfl (fun KK hKK => ?_) (AllReadyH.nil)))
      · skip
        refine reg_copy EN (w := z1) (o := ⟨some 33, _, _, _, _, _⟩) rfl _ _ rfl H2.out rfl rfl (by rw [scl_len]) (HSRC.out.recs.below HB.out (Nat.le_refl _)) (scl_one _) ⟨by omega, by omega⟩ HB.out.size ?_
        intro A9 c9 z2 ho hgr
        simp only [Nat.zero_add, List.nil_append] at ho
        have hF := Frm.grownOwn (T := fun t => t = 9) H2.out hgr rfl HB.out.size
        refine hKK.out _ _ (c3n (hF.keep _ _ _ _ HN0.out (by decide))) (fun hHeld => ?_)
        clear hKK KK
        (try simp only [Nat.zero_add, Act.put, List.setIfInBounds_toArray, List.set_cons_zero, List.set_cons_succ])
        replace HB := Lib.hid (HB.out.trans hF.low)
        replace HN0 := Lib.hid (hF.keep _ _ _ _ HN0.out (by decide))
        have H5 := Lib.hid ho
        clear ho hgr hF H2
        refine wpAnyH_ready (rs := [6, 11]) (by kernel_rfl) (by simp) ?_
        refine AllReadyH.cons rfl (fun KK hKK => ?_) (AllReadyH.cons rfl (fun KK hKK => ?_) (AllReadyH.nil))
        · skip
          go_simp
          have hA := heap_alloc_new z2 (.cells #[] 3)
          have hF : Frm (fun _ => False) w5.heap.size z2 (z2.alloc (.cells #[] 3)) := Frm.alloc (Frm.refl _ _ _) HB.out.size _
          refine hKK.out _ (z2.alloc (.cells #[] 3)) (c3n (hF.keep _ _ _ _ HN0.out id)) (fun hHeld => ?_)
          clear hKK KK
          (try simp only [Nat.zero_add, Act.put, List.setIfInBounds_toArray, List.set_cons_zero, List.set_cons_succ])
          obtain ⟨z3, hZ⟩ : ∃ z3, z3 = z2.alloc (.cells #[] 3) := ⟨_, rfl⟩
          rw [← hZ] at hA hF hHeld ⊢
          obtain ⟨g6, hg⟩ : ∃ g, g = z2.heap.size := ⟨_, rfl⟩
          have HG6 : Hid (w5.heap.size ≤ g6) := (by rw [hg]; exact HB.out.size : w5.heap.size ≤ g6)
          rw [← hg] at hA ⊢
          replace HB := Lib.hid (HB.out.trans hF.low)
          replace HN0 := Lib.hid (hF.keep _ _ _ _ HN0.out id)
          replace H5 := Lib.hid (hF.owns H5.out id)
          have H6 := Lib.hid (rowI_at hA HG6.out)
          clear hZ hg hA hF
          refine wpAnyH_ready (rs := [9, 11]) (by kernel_rfl) (by simp) ?_
          refine AllReadyH.cons rfl (fun KK hKK => ?_) (AllReadyH.cons rfl (fun KK hKK => ?_) (AllReadyH.nil))
          · skip
            refine reg_copy EI (w := z3) (o := ⟨some 37, _, _, _, _, _⟩) rfl _ _ rfl H6.out rfl rfl (by simp [icl]) (HSRC.out.kids.below HB.out (Nat.le_refl _)) (icl_one _) ⟨by omega, by omega⟩ HB.out.size ?_
            intro B9 d9 z4 ho hgr
            simp only [Nat.zero_add, List.nil_append] at ho
            have hF := Frm.grownOwn (T := fun t => t = 3) H6.out hgr rfl HB.out.size
            refine hKK.out _ _ (c3n (hF.keep _ _ _ _ HN0.out (by decide))) (fun hHeld => ?_)
            clear hKK KK
            (try simp only [Nat.zero_add, Act.put, List.setIfInBounds_toArray, List.set_cons_zero, List.set_cons_succ])
            replace HB := Lib.hid (HB.out.trans hF.low)
            replace HN0 := Lib.hid (hF.keep _ _ _ _ HN0.out (by decide))
            replace H5 := Lib.hid (hF.owns H5.out (by decide))
            have H9 := Lib.hid ho
            clear ho hgr hF H6
            refine takeH (i := 10) (v := (.agg #[.bool leaf, .slice A9 l.length c9, .slice B9 ks.length d9])) rfl (by kernel_rfl) (by kernel_rfl) (by kernel_rfl) (fun _ _ _ h => h) (by rfl) (by intro w hSw; (try dsimp only at hSw); go_simp) (by assumption) ?_
            (try simp only [Nat.zero_add, Act.put, List.setIfInBounds_toArray, List.set_cons_zero, List.set_cons_succ])
            refine wpAnyH_ready (rs := [11]) (by kernel_rfl) (by simp) ?_
            refine AllReadyH.cons rfl (fun KK hKK => ?_) (AllReadyH.nil)
            · skip
              go_simp
              have hA := heap_alloc_new z4 (.cells #[.bool false, .slice none 0 0, .slice none 0 0] 29)
              have hF : Frm (fun _ => False) w5.heap.size z4 (z4.alloc (.cells #[.bool false, .slice none 0 0, .slice none 0 0] 29)) := Frm.alloc (Frm.refl _ _ _) HB.out.size _
              refine hKK.out _ (z4.alloc (.cells #[.bool false, .slice none 0 0, .slice none 0 0] 29)) (c3n (hF.keep _ _ _ _ HN0.out id)) (fun hHeld => ?_)
              clear hKK KK
              (try simp only [Nat.zero_add, Act.put, List.setIfInBounds_toArray, List.set_cons_zero, List.set_cons_succ])
              obtain ⟨z5, hZ⟩ : ∃ z5, z5 = z4.alloc (.cells #[.bool false, .slice none 0 0, .slice none 0 0] 29) := ⟨_, rfl⟩
              rw [← hZ] at hA hF hHeld ⊢
              obtain ⟨g11, hg⟩ : ∃ g, g = z4.heap.size := ⟨_, rfl⟩
              have HG11 : Hid (w5.heap.size ≤ g11) := (by rw [hg]; exact HB.out.size : w5.heap.size ≤ g11)
              rw [← hg] at hA ⊢
              replace HB := Lib.hid (HB.out.trans hF.low)
              replace HN0 := Lib.hid (hF.keep _ _ _ _ HN0.out id)
              replace H5 := Lib.hid (hF.owns H5.out id)
              replace H9 := Lib.hid (hF.owns H9.out id)
              have H11 := Lib.hid hA
              clear hZ hg hA hF
              obtain ⟨q0, q1, q2, qf0, qf1, qf2, ql⟩ := three_of_block H11.out
              have hne : w.heap.size ≠ g11 := by have h1 := HG11.out; have h2 := HNB.out; omega
              have hX := s3_self H11.out (.bool leaf) (.slice A9 l.length c9) (.slice B9 ks.length d9)
              have hF := s3_frm H11.out HG11.out (.bool leaf) (.slice A9 l.length c9) (.slice B9 ks.length d9)
              refine wpAnyH_ready (rs := [12]) (by kernel_rfl) (by simp) ?_
              refine AllReadyH.cons rfl (fun KK hKK => ?_) AllReadyH.nil
              go_simp
              refine hKK.out _ (((z5.setCell ⟨g11, 0, none⟩ (.bool leaf)).setCell ⟨g11, 1, none⟩ (.slice A9 l.length c9)).setCell ⟨g11, 2, none⟩ (.slice B9 ks.length d9)) (c3n (s3_other HN0.out hne (.bool leaf) (.slice A9 l.length c9) (.slice B9 ks.length d9))) (fun hHeld => ?_)
              clear hKK KK
              refine wpAnyH_done (by kernel_rfl) ?_ _
              go_wp2_with fail
              go_meet
              exact ⟨g11, A9, c9, B9, d9, rfl, Lib.hid ⟨HB.out.trans hF.low, hX, hF.owns H5.out (by decide), hF.owns H9.out (by decide)⟩⟩
          · skip
            go_simp
            have hA := heap_alloc_new z3 (.cells #[.bool false, .slice none 0 0, .slice none 0 0] 29)
            have hF : Frm (fun _ => False) w5.heap.size z3 (z3.alloc (.cells #[.bool false, .slice none 0 0, .slice none 0 0] 29)) := Frm.alloc (Frm.refl _ _ _) HB.out.size _
            refine hKK.out _ (z3.alloc (.cells #[.bool false, .slice none 0 0, .slice none 0 0] 29)) (c3n (hF.keep _ _ _ _ HN0.out id)) (fun hHeld => ?_)
            clear hKK KK
            (try simp only [Nat.zero_add, Act.put, List.setIfInBounds_toArray, List.set_cons_zero, List.set_cons_succ])
            obtain ⟨z6, hZ⟩ : ∃ z6, z6 = z3.alloc (.cells #[.bool false, .slice none 0 0, .slice none 0 0] 29) := ⟨_, rfl⟩
            rw [← hZ] at hA hF hHeld ⊢
            obtain ⟨g11, hg⟩ : ∃ g, g = z3.heap.size := ⟨_, rfl⟩
            have HG11 : Hid (w5.heap.size ≤ g11) := (by rw [hg]; exact HB.out.size : w5.heap.size ≤ g11)
            rw [← hg] at hA ⊢
            replace HB := Lib.hid (HB.out.trans hF.low)
            replace HN0 := Lib.hid (hF.keep _ _ _ _ HN0.out id)
            replace H5 := Lib.hid (hF.owns H5.out id)
            replace H6 := Lib.hid (hF.owns H6.out id)
            have H11 := Lib.hid hA
            clear hZ hg hA hF
            refine wpAnyH_ready (rs := [9]) (by kernel_rfl) (by simp) ?_
            refine AllReadyH.cons rfl (fun KK hKK => ?_) (AllReadyH.nil)
            · skip
              refine reg_copy EI (w := z6) (o := ⟨some 37, _, _, _, _, _⟩) rfl _ _ rfl H6.out rfl rfl (by simp [icl]) (HSRC.out.kids.below HB.out (Nat.le_refl _)) (icl_one _) ⟨by omega, by omega⟩ HB.out.size ?_
              intro B9 d9 z7 ho hgr
              simp only [Nat.zero_add, List.nil_append] at ho
              have hF := Frm.grownOwn (T := fun t => t = 3) H6.out hgr rfl HB.out.size
              refine hKK.out _ _ (c3n (hF.keep _ _ _ _ HN0.out (by decide))) (fun hHeld => ?_)
              clear hKK KK
              (try simp only [Nat.zero_add, Act.put, List.setIfInBounds_toArray, List.set_cons_zero, List.set_cons_succ])
              replace HB := Lib.hid (HB.out.trans hF.low)
              replace HN0 := Lib.hid (hF.keep _ _ _ _ HN0.out (by decide))
              replace H5 := Lib.hid (hF.owns H5.out (by decide))
              replace H11 := Lib.hid (hF.keep _ _ _ _ H11.out (by decide))
              have H9 := Lib.hid ho
              clear ho hgr hF H6
              refine takeH (i := 10) (v := (.agg #[.bool leaf, .slice A9 l.length c9, .slice B9 ks.length d9])) rfl (by kernel_rfl) (by kernel_rfl) (by kernel_rfl) (fun _ _ _ h => h) (by rfl) (by intro w hSw; (try dsimp only at hSw); go_simp) (by assumption) ?_
              (try simp only [Nat.zero_add, Act.put, List.setIfInBounds_toArray, List.set_cons_zero, List.set_cons_succ])
              obtain ⟨q0, q1, q2, qf0, qf1, qf2, ql⟩ := three_of_block H11.out
              have hne : w.heap.size ≠ g11 := by have h1 := HG11.out; have h2 := HNB.out; omega
              have hX := s3_self H11.out (.bool leaf) (.slice A9 l.length c9) (.slice B9 ks.length d9)
              have hF := s3_frm H11.out HG11.out (.bool leaf) (.slice A9 l.length c9) (.slice B9 ks.length d9)
              refine wpAnyH_ready (rs := [12]) (by kernel_rfl) (by simp) ?_
              refine AllReadyH.cons rfl (fun KK hKK => ?_) AllReadyH.nil
              go_simp
              refine hKK.out _ (((z7.setCell ⟨g11, 0, none⟩ (.bool leaf)).setCell ⟨g11, 1, none⟩ (.slice A9 l.length c9)).setCell ⟨g11, 2, none⟩ (.slice B9 ks.length d9)) (c3n (s3_other HN0.out hne (.bool leaf) (.slice A9 l.length c9) (.slice B9 ks.length d9))) (fun hHeld => ?_)
              clear hKK KK
              refine wpAnyH_done (by kernel_rfl) ?_ _
              go_wp2_with fail
              go_meet
              exact ⟨g11, A9, c9, B9, d9, rfl, Lib.hid ⟨HB.out.trans hF.low, hX, hF.owns H5.out (by decide), hF.owns H9.out (by decide)⟩⟩
        · skip
          go_simp
          have hA := heap_alloc_new z2 (.cells #[.bool false, .slice none 0 0, .slice none 0 0] 29)
          have hF : Frm (fun _ => False) w5.heap.size z2 (z2.alloc (.cells #[.bool false, .slice none 0 0, .slice none 0 0] 29)) := Frm.alloc (Frm.refl _ _ _) HB.out.size _
          refine hKK.out _ (z2.alloc (.cells #[.bool false, .slice none 0 0, .slice none 0 0] 29)) (c3n (hF.keep _ _ _ _ HN0.out id)) (fun hHeld => ?_)
          clear hKK KK
          (try simp only [Nat.zero_add, Act.put, List.setIfInBounds_toArray, List.set_cons_zero, List.set_cons_succ])
          obtain ⟨z8, hZ⟩ : ∃ z8, z8 = z2.alloc (.cells #[.bool false, .slice none 0 0, .slice none 0 0] 29) := ⟨_, rfl⟩
          rw [← hZ] at hA hF hHeld ⊢
          obtain ⟨g11, hg⟩ : ∃ g, g = z2.heap.size := ⟨_, rfl⟩
          have HG11 : Hid (w5.heap.size ≤ g11) := (by rw [hg]; exact HB.out.size : w5.heap.size ≤ g11)
          rw [← hg] at hA ⊢
          replace HB := Lib.hid (HB.out.trans hF.low)
          replace HN0 := Lib.hid (hF.keep _ _ _ _ HN0.out id)
          replace H5 := Lib.hid (hF.owns H5.out id)
          have H11 := Lib.hid hA
          clear hZ hg hA hF
          refine wpAnyH_ready (rs := [6]) (by kernel_rfl) (by simp) ?_
          refine AllReadyH.cons rfl (fun KK hKK => ?_) (AllReadyH.nil)
          · skip
            go_simp
            have hA := heap_alloc_new z8 (.cells #[] 3)
            have hF : Frm (fun _ => False) w5.heap.size z8 (z8.alloc (.cells #[] 3)) := Frm.alloc (Frm.refl _ _ _) HB.out.size _
            refine hKK.out _ (z8.alloc (.cells #[] 3)) (c3n (hF.keep _ _ _ _ HN0.out id)) (fun hHeld => ?_)
            clear hKK KK
            (try simp only [Nat.zero_add, Act.put, List.setIfInBounds_toArray, List.set_cons_zero, List.set_cons_succ])
            obtain ⟨z9, hZ⟩ : ∃ z9, z9 = z8.alloc (.cells #[] 3) := ⟨_, rfl⟩
            rw [← hZ] at hA hF hHeld ⊢
            obtain ⟨g6, hg⟩ : ∃ g, g = z8.heap.size := ⟨_, rfl⟩
            have HG6 : Hid (w5.heap.size ≤ g6) := (by rw [hg]; exact HB.out.size : w5.heap.size ≤ g6)
            rw [← hg] at hA ⊢
            replace HB := Lib.hid (HB.out.trans hF.low)
            replace HN0 := Lib.hid (hF.keep _ _ _ _ HN0.out id)
            replace H5 := Lib.hid (hF.owns H5.out id)
            replace H11 := Lib.hid (hF.keep _ _ _ _ H11.out id)
            have H6 := Lib.hid (rowI_at hA HG6.out)
            clear hZ hg hA hF
            refine wpAnyH_ready (rs := [9]) (by kernel_rfl) (by simp) ?_
            refine AllReadyH.cons rfl (fun KK hKK => ?_) (AllReadyH.nil)
            · skip
              refine reg_copy EI (w := z9) (o := ⟨some 37, _, _, _, _, _⟩) rfl _ _ rfl H6.out rfl rfl (by simp [icl]) (HSRC.out.kids.below HB.out (Nat.le_refl _)) (icl_one _) ⟨by omega, by omega⟩ HB.out.size ?_
              intro B9 d9 z10 ho hgr
              simp only [Nat.zero_add, List.nil_append] at ho
              have hF := Frm.grownOwn (T := fun t => t = 3) H6.out hgr rfl HB.out.size
              refine hKK.out _ _ (c3n (hF.keep _ _ _ _ HN0.out (by decide))) (fun hHeld => ?_)
              clear hKK KK
              (try simp only [Nat.zero_add, Act.put, List.setIfInBounds_toArray, List.set_cons_zero, List.set_cons_succ])
              replace HB := Lib.hid (HB.out.trans hF.low)
              replace HN0 := Lib.hid (hF.keep _ _ _ _ HN0.out (by decide))
              replace H5 := Lib.hid (hF.owns H5.out (by decide))
              replace H11 := Lib.hid (hF.keep _ _ _ _ H11.out (by decide))
              have H9 := Lib.hid ho
              clear ho hgr hF H6
              refine takeH (i := 10) (v := (.agg #[.bool leaf, .slice A9 l.length c9, .slice B9 ks.length d9])) rfl (by kernel_rfl) (by kernel_rfl) (by kernel_rfl) (fun _ _ _ h => h) (by rfl) (by intro w hSw; (try dsimp only at hSw); go_simp) (by assumption) ?_
              (try simp only [Nat.zero_add, Act.put, List.setIfInBounds_toArray, List.set_cons_zero, List.set_cons_succ])
              obtain ⟨q0, q1, q2, qf0, qf1, qf2, ql⟩ := three_of_block H11.out
              have hne : w.heap.size ≠ g11 := by have h1 := HG11.out; have h2 := HNB.out; omega
              have hX := s3_self H11.out (.bool leaf) (.slice A9 l.length c9) (.slice B9 ks.length d9)
              have hF := s3_frm H11.out HG11.out (.bool leaf) (.slice A9 l.length c9) (.slice B9 ks.length d9)
              refine wpAnyH_ready (rs := [12]) (by kernel_rfl) (by simp) ?_
              refine AllReadyH.cons rfl (fun KK hKK => ?_) AllReadyH.nil
              go_simp
              refine hKK.out _ (((z10.setCell ⟨g11, 0, none⟩ (.bool leaf)).setCell ⟨g11, 1, none⟩ (.slice A9 l.length c9)).setCell ⟨g11, 2, none⟩ (.slice B9 ks.length d9)) (c3n (s3_other HN0.out hne (.bool leaf) (.slice A9 l.length c9) (.slice B9 ks.length d9))) (fun hHeld => ?_)
              clear hKK KK
              refine wpAnyH_done (by kernel_rfl) ?_ _
              go_wp2_with fail
              go_meet
              exact ⟨g11, A9, c9, B9, d9, rfl, Lib.hid ⟨HB.out.trans hF.low, hX, hF.owns H5.out (by decide), hF.owns H9.out (by decide)⟩⟩
      · skip
        go_simp
        have hA := heap_alloc_new z1 (.cells #[] 3)
        have hF : Frm (fun _ => False) w5.heap.size z1 (z1.alloc (.cells #[] 3)) := Frm.alloc (Frm.refl _ _ _) HB.out.size _
        refine hKK.out _ (z1.alloc (.cells #[] 3)) (c3n (hF.keep _ _ _ _ HN0.out id)) (fun hHeld => ?_)
        clear hKK KK
        (try simp only [Nat.zero_add, Act.put, List.setIfInBounds_toArray, List.set_cons_zero, List.set_cons_succ])
        obtain ⟨z11, hZ⟩ : ∃ z11, z11 = z1.alloc (.cells #[] 3) := ⟨_, rfl⟩
        rw [← hZ] at hA hF hHeld ⊢
        obtain ⟨g6, hg⟩ : ∃ g, g = z1.heap.size := ⟨_, rfl⟩
        have HG6 : Hid (w5.heap.size ≤ g6) := (by rw [hg]; exact HB.out.size : w5.heap.size ≤ g6)
        rw [← hg] at hA ⊢
        replace HB := Lib.hid (HB.out.trans hF.low)
        replace HN0 := Lib.hid (hF.keep _ _ _ _ HN0.out id)
        replace H2 := Lib.hid (hF.owns H2.out id)
        have H6 := Lib.hid (rowI_at hA HG6.out)
        clear hZ hg hA hF
        refine wpAnyH_ready (rs := [5, 11]) (by kernel_rfl) (by simp) ?_
        refine AllReadyH.cons rfl (fun KK hKK => ?_) (AllReadyH.cons rfl (fun KK hKK => ?_) (AllReadyH.nil))
        · skip
          refine reg_copy EN (w := z11) (o := ⟨some 33, _, _, _, _, _⟩) rfl _ _ rfl H2.out rfl rfl (by rw [scl_len]) (HSRC.out.recs.below HB.out (Nat.le_refl _)) (scl_one _) ⟨by omega, by omega⟩ HB.out.size ?_
          intro A9 c9 z12 ho hgr
          simp only [Nat.zero_add, List.nil_append] at ho
          have hF := Frm.grownOwn (T := fun t => t = 9) H2.out hgr rfl HB.out.size
          refine hKK.out _ _ (c3n (hF.keep _ _ _ _ HN0.out (by decide))) (fun hHeld => ?_)
          clear hKK KK
          (try simp only [Nat.zero_add, Act.put, List.setIfInBounds_toArray, List.set_cons_zero, List.set_cons_succ])
          replace HB := Lib.hid (HB.out.trans hF.low)
          replace HN0 := Lib.hid (hF.keep _ _ _ _ HN0.out (by decide))
          replace H6 := Lib.hid (hF.owns H6.out (by decide))
          have H5 := Lib.hid ho
          clear ho hgr hF H2
          refine wpAnyH_ready (rs := [9, 11]) (by kernel_rfl) (by simp) ?_
          refine AllReadyH.cons rfl (fun KK hKK => ?_) (AllReadyH.cons rfl (fun KK hKK => ?_) (AllReadyH.nil))
          · skip
            refine reg_copy EI (w := z12) (o := ⟨some 37, _, _, _, _, _⟩) rfl _ _ rfl H6.out rfl rfl (by simp [icl]) (HSRC.out.kids.below HB.out (Nat.le_refl _)) (icl_one _) ⟨by omega, by omega⟩ HB.out.size ?_
            intro B9 d9 z13 ho hgr
            simp only [Nat.zero_add, List.nil_append] at ho
            have hF := Frm.grownOwn (T := fun t => t = 3) H6.out hgr rfl HB.out.size
            refine hKK.out _ _ (c3n (hF.keep _ _ _ _ HN0.out (by decide))) (fun hHeld => ?_)
            clear hKK KK
            (try simp only [Nat.zero_add, Act.put, List.setIfInBounds_toArray, List.set_cons_zero, List.set_cons_succ])
            replace HB := Lib.hid (HB.out.trans hF.low)
            replace HN0 := Lib.hid (hF.keep _ _ _ _ HN0.out (by decide))
            replace H5 := Lib.hid (hF.owns H5.out (by decide))
            have H9 := Lib.hid ho
            clear ho hgr hF H6
            refine takeH (i := 10) (v := (.agg #[.bool leaf, .slice A9 l.length c9, .slice B9 ks.length d9])) rfl (by kernel_rfl) (by kernel_rfl) (by kernel_rfl) (fun _ _ _ h => h) (by rfl) (by intro w hSw; (try dsimp only at hSw); go_simp) (by assumption) ?_
            (try simp only [Nat.zero_add, Act.put, List.setIfInBounds_toArray, List.set_cons_zero, List.set_cons_succ])
            refine wpAnyH_ready (rs := [11]) (by kernel_rfl) (by simp) ?_
            refine AllReadyH.cons rfl (fun KK hKK => ?_) (AllReadyH.nil)
            · skip
              go_simp
              have hA := heap_alloc_new z13 (.cells #[.bool false, .slice none 0 0, .slice none 0 0] 29)
              have hF : Frm (fun _ => False) w5.heap.size z13 (z13.alloc (.cells #[.bool false, .slice none 0 0, .slice none 0 0] 29)) := Frm.alloc (Frm.refl _ _ _) HB.out.size _
              refine hKK.out _ (z13.alloc (.cells #[.bool false, .slice none 0 0, .slice none 0 0] 29)) (c3n (hF.keep _ _ _ _ HN0.out id)) (fun hHeld => ?_)
              clear hKK KK
              (try simp only [Nat.zero_add, Act.put, List.setIfInBounds_toArray, List.set_cons_zero, List.set_cons_succ])
              obtain ⟨z14, hZ⟩ : ∃ z14, z14 = z13.alloc (.cells #[.bool false, .slice none 0 0, .slice none 0 0] 29) := ⟨_, rfl⟩
              rw [← hZ] at hA hF hHeld ⊢
              obtain ⟨g11, hg⟩ : ∃ g, g = z13.heap.size := ⟨_, rfl⟩
              have HG11 : Hid (w5.heap.size ≤ g11) := (by rw [hg]; exact HB.out.size : w5.heap.size ≤ g11)
              rw [← hg] at hA ⊢
              replace HB := Lib.hid (HB.out.trans hF.low)
              replace HN0 := Lib.hid (hF.keep _ _ _ _ HN0.out id)
              replace H5 := Lib.hid (hF.owns H5.out id)
              replace H9 := Lib.hid (hF.owns H9.out id)
              have H11 := Lib.hid hA
              clear hZ hg hA hF
              obtain ⟨q0, q1, q2, qf0, qf1, qf2, ql⟩ := three_of_block H11.out
              have hne : w.heap.size ≠ g11 := by have h1 := HG11.out; have h2 := HNB.out; omega
              have hX := s3_self H11.out (.bool leaf) (.slice A9 l.length c9) (.slice B9 ks.length d9)
              have hF := s3_frm H11.out HG11.out (.bool leaf) (.slice A9 l.length c9) (.slice B9 ks.length d9)
              refine wpAnyH_ready (rs := [12]) (by kernel_rfl) (by simp) ?_
              refine AllReadyH.cons rfl (fun KK hKK => ?_) AllReadyH.nil
              go_simp
              refine hKK.out _ (((z14.setCell ⟨g11, 0, none⟩ (.bool leaf)).setCell ⟨g11, 1, none⟩ (.slice A9 l.length c9)).setCell ⟨g11, 2, none⟩ (.slice B9 ks.length d9)) (c3n (s3_other HN0.out hne (.bool leaf) (.slice A9 l.length c9) (.slice B9 ks.length d9))) (fun hHeld => ?_)
              clear hKK KK
              refine wpAnyH_done (by kernel_rfl) ?_ _
              go_wp2_with fail
              go_meet
              exact ⟨g11, A9, c9, B9, d9, rfl, Lib.hid ⟨HB.out.trans hF.low, hX, hF.owns H5.out (by decide), hF.owns H9.out (by decide)⟩⟩
          · skip
            go_simp
            have hA := heap_alloc_new z12 (.cells #[.bool false, .slice none 0 0, .slice none 0 0] 29)
            have hF : Frm (fun _ => False) w5.heap.size z12 (z12.alloc (.cells #[.bool false, .slice none 0 0, .slice none 0 0] 29)) := Frm.alloc (Frm.refl _ _ _) HB.out.size _
            refine hKK.out _ (z12.alloc (.cells #[.bool false, .slice none 0 0, .slice none 0 0] 29)) (c3n (hF.keep _ _ _ _ HN0.out id)) (fun hHeld => ?_)
            clear hKK KK
            (try simp only [Nat.zero_add, Act.put, List.setIfInBounds_toArray, List.set_cons_zero, List.set_cons_succ])
            obtain ⟨z15, hZ⟩ : ∃ z15, z15 = z12.alloc (.cells #[.bool false, .slice none 0 0, .slice none 0 0] 29) := ⟨_, rfl⟩
            rw [← hZ] at hA hF hHeld ⊢
            obtain ⟨g11, hg⟩ : ∃ g, g = z12.heap.size := ⟨_, rfl⟩
            have HG11 : Hid (w5.heap.size ≤ g11) := (by rw [hg]; exact HB.out.size : w5.heap.size ≤ g11)
            rw [← hg] at hA ⊢
            replace HB := Lib.hid (HB.out.trans hF.low)
            replace HN0 := Lib.hid (hF.keep _ _ _ _ HN0.out id)
            replace H6 := Lib.hid (hF.owns H6.out id)
            replace H5 := Lib.hid (hF.owns H5.out id)
            have H11 := Lib.hid hA
            clear hZ hg hA hF
            refine wpAnyH_ready (rs := [9]) (by kernel_rfl) (by simp) ?_
            refine AllReadyH.cons rfl (fun KK hKK => ?_) (AllReadyH.nil)
            · skip
              refine reg_copy EI (w := z15) (o := ⟨some 37, _, _, _, _, _⟩) rfl _ _ rfl H6.out rfl rfl (by simp [icl]) (HSRC.out.kids.below HB.out (Nat.le_refl _)) (icl_one _) ⟨by omega, by omega⟩ HB.out.size ?_
              intro B9 d9 z16 ho hgr
              simp only [Nat.zero_add, List.nil_append] at ho
              have hF := Frm.grownOwn (T := fun t => t = 3) H6.out hgr rfl HB.out.size
              refine hKK.out _ _ (c3n (hF.keep _ _ _ _ HN0.out (by decide))) (fun hHeld => ?_)
              clear hKK KK
              (try simp only [Nat.zero_add, Act.put, List.setIfInBounds_toArray, List.set_cons_zero, List.set_cons_succ])
              replace HB := Lib.hid (HB.out.trans hF.low)
              replace HN0 := Lib.hid (hF.keep _ _ _ _ HN0.out (by decide))
              replace H5 := Lib.hid (hF.owns H5.out (by decide))
              replace H11 := Lib.hid (hF.keep _ _ _ _ H11.out (by decide))
              have H9 := Lib.hid ho
              clear ho hgr hF H6
              refine takeH (i := 10) (v := (.agg #[.bool leaf, .slice A9 l.length c9, .slice B9 ks.length d9])) rfl (by kernel_rfl) (by kernel_rfl) (by kernel_rfl) (fun _ _ _ h => h) (by rfl) (by intro w hSw; (try dsimp only at hSw); go_simp) (by assumption) ?_
              (try simp only [Nat.zero_add, Act.put, List.setIfInBounds_toArray, List.set_cons_zero, List.set_cons_succ])
              obtain ⟨q0, q1, q2, qf0, qf1, qf2, ql⟩ := three_of_block H11.out
              have hne : w.heap.size ≠ g11 := by have h1 := HG11.out; have h2 := HNB.out; omega
              have hX := s3_self H11.out (.bool leaf) (.slice A9 l.length c9) (.slice B9 ks.length d9)
              have hF := s3_frm H11.out HG11.out (.bool leaf) (.slice A9 l.length c9) (.slice B9 ks.length d9)
              refine wpAnyH_ready (rs := [12]) (by kernel_rfl) (by simp) ?_
              refine AllReadyH.cons rfl (fun KK hKK => ?_) AllReadyH.nil
              go_simp
              refine hKK.out _ (((z16.setCell ⟨g11, 0, none⟩ (.bool leaf)).setCell ⟨g11, 1, none⟩ (.slice A9 l.length c9)).setCell ⟨g11, 2, none⟩ (.slice B9 ks.length d9)) (c3n (s3_other HN0.out hne (.bool leaf) (.slice A9 l.length c9) (.slice B9 ks.length d9))) (fun hHeld => ?_)
              clear hKK KK
              refine wpAnyH_done (by kernel_rfl) ?_ _
              go_wp2_with fail
              go_meet
              exact ⟨g11, A9, c9, B9, d9, rfl, Lib.hid ⟨HB.out.trans hF.low, hX, hF.owns H5.out (by decide), hF.owns H9.out (by decide)⟩⟩
        · skip
          go_simp
          have hA := heap_alloc_new z11 (.cells #[.bool false, .slice none 0 0, .slice none 0 0] 29)
          have hF : Frm (fun _ => False) w5.heap.size z11 (z11.alloc (.cells #[.bool false, .slice none 0 0, .slice none 0 0] 29)) := Frm.alloc (Frm.refl _ _ _) HB.out.size _
          refine hKK.out _ (z11.alloc (.cells #[.bool false, .slice none 0 0, .slice none 0 0] 29)) (c3n (hF.keep _ _ _ _ HN0.out id)) (fun hHeld => ?_)
          clear hKK KK
          (try simp only [Nat.zero_add, Act.put, List.setIfInBounds_toArray, List.set_cons_zero, List.set_cons_succ])
          obtain ⟨z17, hZ⟩ : ∃ z17, z17 = z11.alloc (.cells #[.bool false, .slice none 0 0, .slice none 0 0] 29) := ⟨_, rfl⟩
          rw [← hZ] at hA hF hHeld ⊢
          obtain ⟨g11, hg⟩ : ∃ g, g = z11.heap.size := ⟨_, rfl⟩
          have HG11 : Hid (w5.heap.size ≤ g11) := (by rw [hg]; exact HB.out.size : w5.heap.size ≤ g11)
          rw [← hg] at hA ⊢
          replace HB := Lib.hid (HB.out.trans hF.low)
          replace HN0 := Lib.hid (hF.keep _ _ _ _ HN0.out id)
          replace H2 := Lib.hid (hF.owns H2.out id)
          replace H6 := Lib.hid (hF.owns H6.out id)
          have H11 := Lib.hid hA
          clear hZ hg hA hF
          refine wpAnyH_ready (rs := [5]) (by kernel_rfl) (by simp) ?_
          refine AllReadyH.cons rfl (fun KK hKK => ?_) (AllReadyH.nil)
          · skip
            refine reg_copy EN (w := z17) (o := ⟨some 33, _, _, _, _, _⟩) rfl _ _ rfl H2.out rfl rfl (by rw [scl_len]) (HSRC.out.recs.below HB.out (Nat.le_refl _)) (scl_one _) ⟨by omega, by omega⟩ HB.out.size ?_
            intro A9 c9 z18 ho hgr
            simp only [Nat.zero_add, List.nil_append] at ho
            have hF := Frm.grownOwn (T := fun t => t = 9) H2.out hgr rfl HB.out.size
            refine hKK.out _ _ (c3n (hF.keep _ _ _ _ HN0.out (by decide))) (fun hHeld => ?_)
            clear hKK KK
            (try simp only [Nat.zero_add, Act.put, List.setIfInBounds_toArray, List.set_cons_zero, List.set_cons_succ])
            replace HB := Lib.hid (HB.out.trans hF.low)
            replace HN0 := Lib.hid (hF.keep _ _ _ _ HN0.out (by decide))
            replace H6 := Lib.hid (hF.owns H6.out (by decide))
            replace H11 := Lib.hid (hF.keep _ _ _ _ H11.out (by decide))
            have H5 := Lib.hid ho
            clear ho hgr hF H2
            refine wpAnyH_ready (rs := [9]) (by kernel_rfl) (by simp) ?_
            refine AllReadyH.cons rfl (fun KK hKK => ?_) (AllReadyH.nil)
            · skip
              refine reg_copy EI (w := z18) (o := ⟨some 37, _, _, _, _, _⟩) rfl _ _ rfl H6.out rfl rfl (by simp [icl]) (HSRC.out.kids.below HB.out (Nat.le_refl _)) (icl_one _) ⟨by omega, by omega⟩ HB.out.size ?_
              intro B9 d9 z19 ho hgr
              simp only [Nat.zero_add, List.nil_append] at ho
              have hF := Frm.grownOwn (T := fun t => t = 3) H6.out hgr rfl HB.out.size
              refine hKK.out _ _ (c3n (hF.keep _ _ _ _ HN0.out (by decide))) (fun hHeld => ?_)
              clear hKK KK
              (try simp only [Nat.zero_add, Act.put, List.setIfInBounds_toArray, List.set_cons_zero, List.set_cons_succ])
              replace HB := Lib.hid (HB.out.trans hF.low)
              replace HN0 := Lib.hid (hF.keep _ _ _ _ HN0.out (by decide))
              replace H11 := Lib.hid (hF.keep _ _ _ _ H11.out (by decide))
              replace H5 := Lib.hid (hF.owns H5.out (by decide))
              have H9 := Lib.hid ho
              clear ho hgr hF H6
              refine takeH (i := 10) (v := (.agg #[.bool leaf, .slice A9 l.length c9, .slice B9 ks.length d9])) rfl (by kernel_rfl) (by kernel_rfl) (by kernel_rfl) (fun _ _ _ h => h) (by rfl) (by intro w hSw; (try dsimp only at hSw); go_simp) (by assumption) ?_
              (try simp only [Nat.zero_add, Act.put, List.setIfInBounds_toArray, List.set_cons_zero, List.set_cons_succ])
              obtain ⟨q0, q1, q2, qf0, qf1, qf2, ql⟩ := three_of_block H11.out
              have hne : w.heap.size ≠ g11 := by have h1 := HG11.out; have h2 := HNB.out; omega
              have hX := s3_self H11.out (.bool leaf) (.slice A9 l.length c9) (.slice B9 ks.length d9)
              have hF := s3_frm H11.out HG11.out (.bool leaf) (.slice A9 l.length c9) (.slice B9 ks.length d9)
              refine wpAnyH_ready (rs := [12]) (by kernel_rfl) (by simp) ?_
              refine AllReadyH.cons rfl (fun KK hKK => ?_) AllReadyH.nil
              go_simp
              refine hKK.out _ (((z19.setCell ⟨g11, 0, none⟩ (.bool leaf)).setCell ⟨g11, 1, none⟩ (.slice A9 l.length c9)).setCell ⟨g11, 2, none⟩ (.slice B9 ks.length d9)) (c3n (s3_other HN0.out hne (.bool leaf) (.slice A9 l.length c9) (.slice B9 ks.length d9))) (fun hHeld => ?_)
              clear hKK KK
              refine wpAnyH_done (by kernel_rfl) ?_ _
              go_wp2_with fail
              go_meet
              exact ⟨g11, A9, c9, B9, d9, rfl, Lib.hid ⟨HB.out.trans hF.low, hX, hF.owns H5.out (by decide), hF.owns H9.out (by decide)⟩⟩
      · skip
        go_simp
        have hA := heap_alloc_new z1 (.cells #[.bool false, .slice none 0 0, .slice none 0 0] 29)
        have hF : Frm (fun _ => False) w5.heap.size z1 (z1.alloc (.cells #[.bool false, .slice none 0 0, .slice none 0 0] 29)) := Frm.alloc (Frm.refl _ _ _) HB.out.size _
        refine hKK.out _ (z1.alloc (.cells #[.bool false, .slice none 0 0, .slice none 0 0] 29)) (c3n (hF.keep _ _ _ _ HN0.out id)) (fun hHeld => ?_)
        clear hKK KK
        (try simp only [Nat.zero_add, Act.put, List.setIfInBounds_toArray, List.set_cons_zero, List.set_cons_succ])
        obtain ⟨z20, hZ⟩ : ∃ z20, z20 = z1.alloc (.cells #[.bool false, .slice none 0 0, .slice none 0 0] 29) := ⟨_, rfl⟩
        rw [← hZ] at hA hF hHeld ⊢
        obtain ⟨g11, hg⟩ : ∃ g, g = z1.heap.size := ⟨_, rfl⟩
        have HG11 : Hid (w5.heap.size ≤ g11) := (by rw [hg]; exact HB.out.size : w5.heap.size ≤ g11)
        rw [← hg] at hA ⊢
        replace HB := Lib.hid (HB.out.trans hF.low)
        replace HN0 := Lib.hid (hF.keep _ _ _ _ HN0.out id)
        replace H2 := Lib.hid (hF.owns H2.out id)
        have H11 := Lib.hid hA
        clear hZ hg hA hF
        refine wpAnyH_ready (rs := [5, 6]) (by kernel_rfl) (by simp) ?_
        refine AllReadyH.cons rfl (fun KK hKK => ?_) (AllReadyH.cons rfl (fun KK hKK => ?_) (AllReadyH.nil))
        · skip
          refine reg_copy EN (w := z20) (o := ⟨some 33, _, _, _, _, _⟩) rfl _ _ rfl H2.out rfl rfl (by rw [scl_len]) (HSRC.out.recs.below HB.out (Nat.le_refl _)) (scl_one _) ⟨by omega, by omega⟩ HB.out.size ?_
          intro A9 c9 z21 ho hgr
          simp only [Nat.zero_add, List.nil_append] at ho
          have hF := Frm.grownOwn (T := fun t => t = 9) H2.out hgr rfl HB.out.size
          refine hKK.out _ _ (c3n (hF.keep _ _ _ _ HN0.out (by decide))) (fun hHeld => ?_)
          clear hKK KK
          (try simp only [Nat.zero_add, Act.put, List.setIfInBounds_toArray, List.set_cons_zero, List.set_cons_succ])
          replace HB := Lib.hid (HB.out.trans hF.low)
          replace HN0 := Lib.hid (hF.keep _ _ _ _ HN0.out (by decide))
          replace H11 := Lib.hid (hF.keep _ _ _ _ H11.out (by decide))
          have H5 := Lib.hid ho
          clear ho hgr hF H2
          refine wpAnyH_ready (rs := [6]) (by kernel_rfl) (by simp) ?_
          refine AllReadyH.cons rfl (fun KK hKK => ?_) (AllReadyH.nil)
          · skip
            go_simp
            have hA := heap_alloc_new z21 (.cells #[] 3)
            have hF : Frm (fun _ => False) w5.heap.size z21 (z21.alloc (.cells #[] 3)) := Frm.alloc (Frm.refl _ _ _) HB.out.size _
            refine hKK.out _ (z21.alloc (.cells #[] 3)) (c3n (hF.keep _ _ _ _ HN0.out id)) (fun hHeld => ?_)
            clear hKK KK
            (try simp only [Nat.zero_add, Act.put, List.setIfInBounds_toArray, List.set_cons_zero, List.set_cons_succ])
            obtain ⟨z22, hZ⟩ : ∃ z22, z22 = z21.alloc (.cells #[] 3) := ⟨_, rfl⟩
            rw [← hZ] at hA hF hHeld ⊢
            obtain ⟨g6, hg⟩ : ∃ g, g = z21.heap.size := ⟨_, rfl⟩
            have HG6 : Hid (w5.heap.size ≤ g6) := (by rw [hg]; exact HB.out.size : w5.heap.size ≤ g6)
            rw [← hg] at hA ⊢
            replace HB := Lib.hid (HB.out.trans hF.low)
            replace HN0 := Lib.hid (hF.keep _ _ _ _ HN0.out id)
            replace H11 := Lib.hid (hF.keep _ _ _ _ H11.out id)
            replace H5 := Lib.hid (hF.owns H5.out id)
            have H6 := Lib.hid (rowI_at hA HG6.out)
            clear hZ hg hA hF
            refine wpAnyH_ready (rs := [9]) (by kernel_rfl) (by simp) ?_
            refine AllReadyH.cons rfl (fun KK hKK => ?_) (AllReadyH.nil)
            · skip
              refine reg_copy EI (w := z22) (o := ⟨some 37, _, _, _, _, _⟩) rfl _ _ rfl H6.out rfl rfl (by simp [icl]) (HSRC.out.kids.below HB.out (Nat.le_refl _)) (icl_one _) ⟨by omega, by omega⟩ HB.out.size ?_
              intro B9 d9 z23 ho hgr
              simp only [Nat.zero_add, List.nil_append] at ho
              have hF := Frm.grownOwn (T := fun t => t = 3) H6.out hgr rfl HB.out.size
              refine hKK.out _ _ (c3n (hF.keep _ _ _ _ HN0.out (by decide))) (fun hHeld => ?_)
              clear hKK KK
              (try simp only [Nat.zero_add, Act.put, List.setIfInBounds_toArray, List.set_cons_zero, List.set_cons_succ])
              replace HB := Lib.hid (HB.out.trans hF.low)
              replace HN0 := Lib.hid (hF.keep _ _ _ _ HN0.out (by decide))
              replace H11 := Lib.hid (hF.keep _ _ _ _ H11.out (by decide))
              replace H5 := Lib.hid (hF.owns H5.out (by decide))
              have H9 := Lib.hid ho
              clear ho hgr hF H6
              refine takeH (i := 10) (v := (.agg #[.bool leaf, .slice A9 l.length c9, .slice B9 ks.length d9])) rfl (by kernel_rfl) (by kernel_rfl) (by kernel_rfl) (fun _ _ _ h => h) (by rfl) (by intro w hSw; (try dsimp only at hSw); go_simp) (by assumption) ?_
              (try simp only [Nat.zero_add, Act.put, List.setIfInBounds_toArray, List.set_cons_zero, List.set_cons_succ])
              obtain ⟨q0, q1, q2, qf0, qf1, qf2, ql⟩ := three_of_block H11.out
              have hne : w.heap.size ≠ g11 := by have h1 := HG11.out; have h2 := HNB.out; omega
              have hX := s3_self H11.out (.bool leaf) (.slice A9 l.length c9) (.slice B9 ks.length d9)
              have hF := s3_frm H11.out HG11.out (.bool leaf) (.slice A9 l.length c9) (.slice B9 ks.length d9)
              refine wpAnyH_ready (rs := [12]) (by kernel_rfl) (by simp) ?_
              refine AllReadyH.cons rfl (fun KK hKK => ?_) AllReadyH.nil
              go_simp
              refine hKK.out _ (((z23.setCell ⟨g11, 0, none⟩ (.bool leaf)).setCell ⟨g11, 1, none⟩ (.slice A9 l.length c9)).setCell ⟨g11, 2, none⟩ (.slice B9 ks.length d9)) (c3n (s3_other HN0.out hne (.bool leaf) (.slice A9 l.length c9) (.slice B9 ks.length d9))) (fun hHeld => ?_)
              clear hKK KK
              refine wpAnyH_done (by kernel_rfl) ?_ _
              go_wp2_with fail
              go_meet
              exact ⟨g11, A9, c9, B9, d9, rfl, Lib.hid ⟨HB.out.trans hF.low, hX, hF.owns H5.out (by decide), hF.owns H9.out (by decide)⟩⟩
        · skip
          go_simp
          have hA := heap_alloc_new z20 (.cells #[] 3)
          have hF : Frm (fun _ => False) w5.heap.size z20 (z20.alloc (.cells #[] 3)) := Frm.alloc (Frm.refl _ _ _) HB.out.size _
          refine hKK.out _ (z20.alloc (.cells #[] 3)) (c3n (hF.keep _ _ _ _ HN0.out id)) (fun hHeld => ?_)
          clear hKK KK
          (try simp only [Nat.zero_add, Act.put, List.setIfInBounds_toArray, List.set_cons_zero, List.set_cons_succ])
          obtain ⟨z24, hZ⟩ : ∃ z24, z24 = z20.alloc (.cells #[] 3) := ⟨_, rfl⟩
          rw [← hZ] at hA hF hHeld ⊢
          obtain ⟨g6, hg⟩ : ∃ g, g = z20.heap.size := ⟨_, rfl⟩
          have HG6 : Hid (w5.heap.size ≤ g6) := (by rw [hg]; exact HB.out.size : w5.heap.size ≤ g6)
          rw [← hg] at hA ⊢
          replace HB := Lib.hid (HB.out.trans hF.low)
          replace HN0 := Lib.hid (hF.keep _ _ _ _ HN0.out id)
          replace H2 := Lib.hid (hF.owns H2.out id)
          replace H11 := Lib.hid (hF.keep _ _ _ _ H11.out id)
          have H6 := Lib.hid (rowI_at hA HG6.out)
          clear hZ hg hA hF
          refine wpAnyH_ready (rs := [5]) (by kernel_rfl) (by simp) ?_
          refine AllReadyH.cons rfl (fun KK hKK => ?_) (AllReadyH.nil)
          · skip
            refine reg_copy EN (w := z24) (o := ⟨some 33, _, _, _, _, _⟩) rfl _ _ rfl H2.out rfl rfl (by rw [scl_len]) (HSRC.out.recs.below HB.out (Nat.le_refl _)) (scl_one _) ⟨by omega, by omega⟩ HB.out.size ?_
            intro A9 c9 z25 ho hgr
            simp only [Nat.zero_add, List.nil_append] at ho
            have hF := Frm.grownOwn (T := fun t => t = 9) H2.out hgr rfl HB.out.size
            refine hKK.out _ _ (c3n (hF.keep _ _ _ _ HN0.out (by decide))) (fun hHeld => ?_)
            clear hKK KK
            (try simp only [Nat.zero_add, Act.put, List.setIfInBounds_toArray, List.set_cons_zero, List.set_cons_succ])
            replace HB := Lib.hid (HB.out.trans hF.low)
            replace HN0 := Lib.hid (hF.keep _ _ _ _ HN0.out (by decide))
            replace H11 := Lib.hid (hF.keep _ _ _ _ H11.out (by decide))
            replace H6 := Lib.hid (hF.owns H6.out (by decide))
            have H5 := Lib.hid ho
            clear ho hgr hF H2
            refine wpAnyH_ready (rs := [9]) (by kernel_rfl) (by simp) ?_
            refine AllReadyH.cons rfl (fun KK hKK => ?_) (AllReadyH.nil)
            · skip
              refine reg_copy EI (w := z25) (o := ⟨some 37, _, _, _, _, _⟩) rfl _ _ rfl H6.out rfl rfl (by simp [icl]) (HSRC.out.kids.below HB.out (Nat.le_refl _)) (icl_one _) ⟨by omega, by omega⟩ HB.out.size ?_
              intro B9 d9 z26 ho hgr
              simp only [Nat.zero_add, List.nil_append] at ho
              have hF := Frm.grownOwn (T := fun t => t = 3) H6.out hgr rfl HB.out.size
              refine hKK.out _ _ (c3n (hF.keep _ _ _ _ HN0.out (by decide))) (fun hHeld => ?_)
              clear hKK KK
              (try simp only [Nat.zero_add, Act.put, List.setIfInBounds_toArray, List.set_cons_zero, List.set_cons_succ])
              replace HB := Lib.hid (HB.out.trans hF.low)
              replace HN0 := Lib.hid (hF.keep _ _ _ _ HN0.out (by decide))
              replace H11 := Lib.hid (hF.keep _ _ _ _ H11.out (by decide))
              replace H5 := Lib.hid (hF.owns H5.out (by decide))
              have H9 := Lib.hid ho
              clear ho hgr hF H6
              refine takeH (i := 10) (v := (.agg #[.bool leaf, .slice A9 l.length c9, .slice B9 ks.length d9])) rfl (by kernel_rfl) (by kernel_rfl) (by kernel_rfl) (fun _ _ _ h => h) (by rfl) (by intro w hSw; (try dsimp only at hSw); go_simp) (by assumption) ?_
              (try simp only [Nat.zero_add, Act.put, List.setIfInBounds_toArray, List.set_cons_zero, List.set_cons_succ])
              obtain ⟨q0, q1, q2, qf0, qf1, qf2, ql⟩ := three_of_block H11.out
              have hne : w.heap.size ≠ g11 := by have h1 := HG11.out; have h2 := HNB.out; omega
              have hX := s3_self H11.out (.bool leaf) (.slice A9 l.length c9) (.slice B9 ks.length d9)
              have hF := s3_frm H11.out HG11.out (.bool leaf) (.slice A9 l.length c9) (.slice B9 ks.length d9)
              refine wpAnyH_ready (rs := [12]) (by kernel_rfl) (by simp) ?_
              refine AllReadyH.cons rfl (fun KK hKK => ?_) AllReadyH.nil
              go_simp
              refine hKK.out _ (((z26.setCell ⟨g11, 0, none⟩ (.bool leaf)).setCell ⟨g11, 1, none⟩ (.slice A9 l.length c9)).setCell ⟨g11, 2, none⟩ (.slice B9 ks.length d9)) (c3n (s3_other HN0.out hne (.bool leaf) (.slice A9 l.length c9) (.slice B9 ks.length d9))) (fun hHeld => ?_)
              clear hKK KK
              refine wpAnyH_done (by kernel_rfl) ?_ _
              go_wp2_with fail
              go_meet
              exact ⟨g11, A9, c9, B9, d9, rfl, Lib.hid ⟨HB.out.trans hF.low, hX, hF.owns H5.out (by decide), hF.owns H9.out (by decide)⟩⟩
    · skip
      go_simp
      have hA := heap_alloc_new z0 (.cells #[] 3)
      have hF : Frm (fun _ => False) w5.heap.size z0 (z0.alloc (.cells #[] 3)) := Frm.alloc (Frm.refl _ _ _) HB.out.size _
      refine hKK.out _ (z0.alloc (.cells #[] 3)) (c3n (hF.keep _ _ _ _ HN0.out id)) (fun hHeld => ?_)
      clear hKK KK
      (try simp only [Nat.zero_add, Act.put, List.setIfInBounds_toArray, List.set_cons_zero, List.set_cons_succ])
      obtain ⟨z27, hZ⟩ : ∃ z27, z27 = z0.alloc (.cells #[] 3) := ⟨_, rfl⟩
      rw [← hZ] at hA hF hHeld ⊢
      obtain ⟨g6, hg⟩ : ∃ g, g = z0.heap.size := ⟨_, rfl⟩
      have HG6 : Hid (w5.heap.size ≤ g6) := (by rw [hg]; exact HB.out.size : w5.heap.size ≤ g6)
      rw [← hg] at hA ⊢
      replace HB := Lib.hid (HB.out.trans hF.low)
      replace HN0 := Lib.hid (hF.keep _ _ _ _ HN0.out id)
      have H6 := Lib.hid (rowI_at hA HG6.out)
      clear hZ hg hA hF
      refine wpAnyH_ready (rs := [2, 11]) (by kernel_rfl) (by simp) ?_
      refine AllReadyH.cons rfl (fun KK hKK => ?_) (AllReadyH.cons rfl (fun KK hKK => ?_) (AllReadyH.nil))
      · skip
        go_simp
        have hA := heap_alloc_new z27 (.cells #[] 9)
        have hF : Frm (fun _ => False) w5.heap.size z27 (z27.alloc (.cells #[] 9)) := Frm.alloc (Frm.refl _ _ _) HB.out.size _
        refine hKK.out _ (z27.alloc (.cells #[] 9)) (c3n (hF.keep _ _ _ _ HN0.out id)) (fun hHeld => ?_)
        clear hKK KK
        (try simp only [Nat.zero_add, Act.put, List.setIfInBounds_toArray, List.set_cons_zero, List.set_cons_succ])
        obtain ⟨z28, hZ⟩ : ∃ z28, z28 = z27.alloc (.cells #[] 9) := ⟨_, rfl⟩
        rw [← hZ] at hA hF hHeld ⊢
        obtain ⟨g2, hg⟩ : ∃ g, g = z27.heap.size := ⟨_, rfl⟩
        have HG2 : Hid (w5.heap.size ≤ g2) := (by rw [hg]; exact HB.out.size : w5.heap.size ≤ g2)
        rw [← hg] at hA ⊢
        replace HB := Lib.hid (HB.out.trans hF.low)
        replace HN0 := Lib.hid (hF.keep _ _ _ _ HN0.out id)
        replace H6 := Lib.hid (hF.owns H6.out id)
        have H2 := Lib.hid (rowN_at hA HG2.out)
        clear hZ hg hA hF
        refine wpAnyH_ready (rs := [5, 11]) (by kernel_rfl) (by simp) ?_
        refine AllReadyH.cons rfl (fun KK hKK => ?_) (AllReadyH.cons rfl (fun KK hKK => ?_) (AllReadyH.nil))
        · skip
          refine reg_copy EN (w := z28) (o := ⟨some 33, _, _, _, _, _⟩) rfl _ _ rfl H2.out rfl rfl (by rw [scl_len]) (HSRC.out.recs.below HB.out (Nat.le_refl _)) (scl_one _) ⟨by omega, by omega⟩ HB.out.size ?_
          intro A9 c9 z29 ho hgr
          simp only [Nat.zero_add, List.nil_append] at ho
          have hF := Frm.grownOwn (T := fun t => t = 9) H2.out hgr rfl HB.out.size
          refine hKK.out _ _ (c3n (hF.keep _ _ _ _ HN0.out (by decide))) (fun hHeld => ?_)
          clear hKK KK
          (try simp only [Nat.zero_add, Act.put, List.setIfInBounds_toArray, List.set_cons_zero, List.set_cons_succ])
          replace HB := Lib.hid (HB.out.trans hF.low)
          replace HN0 := Lib.hid (hF.keep _ _ _ _ HN0.out (by decide))
          replace H6 := Lib.hid (hF.owns H6.out (by decide))
          have H5 := Lib.hid ho
          clear ho hgr hF H2
          refine wpAnyH_ready (rs := [9, 11]) (by kernel_rfl) (by simp) ?_
          refine AllReadyH.cons rfl (fun KK hKK => ?_) (AllReadyH.cons rfl (fun KK hKK => ?_) (AllReadyH.nil))
          · skip
            refine reg_copy EI (w := z29) (o := ⟨some 37, _, _, _, _, _⟩) rfl _ _ rfl H6.out rfl rfl (by simp [icl]) (HSRC.out.kids.below HB.out (Nat.le_refl _)) (icl_one _) ⟨by omega, by omega⟩ HB.out.size ?_
            intro B9 d9 z30 ho hgr
            simp only [Nat.zero_add, List.nil_append] at ho
            have hF := Frm.grownOwn (T := fun t => t = 3) H6.out hgr rfl HB.out.size
            refine hKK.out _ _ (c3n (hF.keep _ _ _ _ HN0.out (by decide))) (fun hHeld => ?_)
            clear hKK KK
            (try simp only [Nat.zero_add, Act.put, List.setIfInBounds_toArray, List.set_cons_zero, List.set_cons_succ])
            replace HB := Lib.hid (HB.out.trans hF.low)
            replace HN0 := Lib.hid (hF.keep _ _ _ _ HN0.out (by decide))
            replace H5 := Lib.hid (hF.owns H5.out (by decide))
            have H9 := Lib.hid ho
            clear ho hgr hF H6
            refine takeH (i := 10) (v := (.agg #[.bool leaf, .slice A9 l.length c9, .slice B9 ks.length d9])) rfl (by kernel_rfl) (by kernel_rfl) (by kernel_rfl) (fun _ _ _ h => h) (by rfl) (by intro w hSw; (try dsimp only at hSw); go_simp) (by assumption) ?_
            (try simp only [Nat.zero_add, Act.put, List.setIfInBounds_toArray, List.set_cons_zero, List.set_cons_succ])
            refine wpAnyH_ready (rs := [11]) (by kernel_rfl) (by simp) ?_
            refine AllReadyH.cons rfl (fun KK hKK => ?_) (AllReadyH.nil)
            · skip
              go_simp
              have hA := heap_alloc_new z30 (.cells #[.bool false, .slice none 0 0, .slice none 0 0] 29)
              have hF : Frm (fun _ => False) w5.heap.size z30 (z30.alloc (.cells #[.bool false, .slice none 0 0, .slice none 0 0] 29)) := Frm.alloc (Frm.refl _ _ _) HB.out.size _
              refine hKK.out _ (z30.alloc (.cells #[.bool false, .slice none 0 0, .slice none 0 0] 29)) (c3n (hF.keep _ _ _ _ HN0.out id)) (fun hHeld => ?_)
              clear hKK KK
              (try simp only [Nat.zero_add, Act.put, List.setIfInBounds_toArray, List.set_cons_zero, List.set_cons_succ])
              obtain ⟨z31, hZ⟩ : ∃ z31, z31 = z30.alloc (.cells #[.bool false, .slice none 0 0, .slice none 0 0] 29) := ⟨_, rfl⟩
              rw [← hZ] at hA hF hHeld ⊢
              obtain ⟨g11, hg⟩ : ∃ g, g = z30.heap.size := ⟨_, rfl⟩
              have HG11 : Hid (w5.heap.size ≤ g11) := (by rw [hg]; exact HB.out.size : w5.heap.size ≤ g11)
              rw [← hg] at hA ⊢
              replace HB := Lib.hid (HB.out.trans hF.low)
              replace HN0 := Lib.hid (hF.keep _ _ _ _ HN0.out id)
              replace H5 := Lib.hid (hF.owns H5.out id)
              replace H9 := Lib.hid (hF.owns H9.out id)
              have H11 := Lib.hid hA
              clear hZ hg hA hF
              obtain ⟨q0, q1, q2, qf0, qf1, qf2, ql⟩ := three_of_block H11.out
              have hne : w.heap.size ≠ g11 := by have h1 := HG11.out; have h2 := HNB.out; omega
              have hX := s3_self H11.out (.bool leaf) (.slice A9 l.length c9) (.slice B9 ks.length d9)
              have hF := s3_frm H11.out HG11.out (.bool leaf) (.slice A9 l.length c9) (.slice B9 ks.length d9)
              refine wpAnyH_ready (rs := [12]) (by kernel_rfl) (by simp) ?_
              refine AllReadyH.cons rfl (fun KK hKK => ?_) AllReadyH.nil
              go_simp
              refine hKK.out _ (((z31.setCell ⟨g11, 0, none⟩ (.bool leaf)).setCell ⟨g11, 1, none⟩ (.slice A9 l.length c9)).setCell ⟨g11, 2, none⟩ (.slice B9 ks.length d9)) (c3n (s3_other HN0.out hne (.bool leaf) (.slice A9 l.length c9) (.slice B9 ks.length d9))) (fun hHeld => ?_)
              clear hKK KK
              refine wpAnyH_done (by kernel_rfl) ?_ _
              go_wp2_with fail
              go_meet
              exact ⟨g11, A9, c9, B9, d9, rfl, Lib.hid ⟨HB.out.trans hF.low, hX, hF.owns H5.out (by decide), hF.owns H9.out (by decide)⟩⟩
          · skip
            go_simp
            have hA := heap_alloc_new z29 (.cells #[.bool false, .slice none 0 0, .slice none 0 0] 29)
            have hF : Frm (fun _ => False) w5.heap.size z29 (z29.alloc (.cells #[.bool false, .slice none 0 0, .slice none 0 0] 29)) := Frm.alloc (Frm.refl _ _ _) HB.out.size _
            refine hKK.out _ (z29.alloc (.cells #[.bool false, .slice none 0 0, .slice none 0 0] 29)) (c3n (hF.keep _ _ _ _ HN0.out id)) (fun hHeld => ?_)
            clear hKK KK
            (try simp only [Nat.zero_add, Act.put, List.setIfInBounds_toArray, List.set_cons_zero, List.set_cons_succ])
            obtain ⟨z32, hZ⟩ : ∃ z32, z32 = z29.alloc (.cells #[.bool false, .slice none 0 0, .slice none 0 0] 29) := ⟨_, rfl⟩
            rw [← hZ] at hA hF hHeld ⊢
            obtain ⟨g11, hg⟩ : ∃ g, g = z29.heap.size := ⟨_, rfl⟩
            have HG11 : Hid (w5.heap.size ≤ g11) := (by rw [hg]; exact HB.out.size : w5.heap.size ≤ g11)
            rw [← hg] at hA ⊢
            replace HB := Lib.hid (HB.out.trans hF.low)
            replace HN0 := Lib.hid (hF.keep _ _ _ _ HN0.out id)
            replace H6 := Lib.hid (hF.owns H6.out id)
            replace H5 := Lib.hid (hF.owns H5.out id)
            have H11 := Lib.hid hA
            clear hZ hg hA hF
            refine wpAnyH_ready (rs := [9]) (by kernel_rfl) (by simp) ?_
            refine AllReadyH.cons rfl (fun KK hKK => ?_) (AllReadyH.nil)
            · skip
              refine reg_copy EI (w := z32) (o := ⟨some 37, _, _, _, _, _⟩) rfl _ _ rfl H6.out rfl rfl (by simp [icl]) (HSRC.out.kids.below HB.out (Nat.le_refl _)) (icl_one _) ⟨by omega, by omega⟩ HB.out.size ?_
              intro B9 d9 z33 ho hgr
              simp only [Nat.zero_add, List.nil_append] at ho
              have hF := Frm.grownOwn (T := fun t => t = 3) H6.out hgr rfl HB.out.size
              refine hKK.out _ _ (c3n (hF.keep _ _ _ _ HN0.out (by decide))) (fun hHeld => ?_)
              clear hKK KK
              (try simp only [Nat.zero_add, Act.put, List.setIfInBounds_toArray, List.set_cons_zero, List.set_cons_succ])
              replace HB := Lib.hid (HB.out.trans hF.low)
              replace HN0 := Lib.hid (hF.keep _ _ _ _ HN0.out (by decide))
              replace H5 := Lib.hid (hF.owns H5.out (by decide))
              replace H11 := Lib.hid (hF.keep _ _ _ _ H11.out (by decide))
              have H9 := Lib.hid ho
              clear ho hgr hF H6
              refine takeH (i := 10) (v := (.agg #[.bool leaf, .slice A9 l.length c9, .slice B9 ks.length d9])) rfl (by kernel_rfl) (by kernel_rfl) (by kernel_rfl) (fun _ _ _ h => h) (by rfl) (by intro w hSw; (try dsimp only at hSw); go_simp) (by assumption) ?_
              (try simp only [Nat.zero_add, Act.put, List.setIfInBounds_toArray, List.set_cons_zero, List.set_cons_succ])
              obtain ⟨q0, q1, q2, qf0, qf1, qf2, ql⟩ := three_of_block H11.out
              have hne : w.heap.size ≠ g11 := by have h1 := HG11.out; have h2 := HNB.out; omega
              have hX := s3_self H11.out (.bool leaf) (.slice A9 l.length c9) (.slice B9 ks.length d9)
              have hF := s3_frm H11.out HG11.out (.bool leaf) (.slice A9 l.length c9) (.slice B9 ks.length d9)
              refine wpAnyH_ready (rs := [12]) (by kernel_rfl) (by simp) ?_
              refine AllReadyH.cons rfl (fun KK hKK => ?_) AllReadyH.nil
              go_simp
              refine hKK.out _ (((z33.setCell ⟨g11, 0, none⟩ (.bool leaf)).setCell ⟨g11, 1, none⟩ (.slice A9 l.length c9)).setCell ⟨g11, 2, none⟩ (.slice B9 ks.length d9)) (c3n (s3_other HN0.out hne (.bool leaf) (.slice A9 l.length c9) (.slice B9 ks.length d9))) (fun hHeld => ?_)
              clear hKK KK
              refine wpAnyH_done (by kernel_rfl) ?_ _
              go_wp2_with fail
              go_meet
              exact ⟨g11, A9, c9, B9, d9, rfl, Lib.hid ⟨HB.out.trans hF.low, hX, hF.owns H5.out (by decide), hF.owns H9.out (by decide)⟩⟩
        · skip
          go_simp
          have hA := heap_alloc_new z28 (.cells #[.bool false, .slice none 0 0, .slice none 0 0] 29)
          have hF : Frm (fun _ => False) w5.heap.size z28 (z28.alloc (.cells #[.bool false, .slice none 0 0, .slice none 0 0] 29)) := Frm.alloc (Frm.refl _ _ _) HB.out.size _
          refine hKK.out _ (z28.alloc (.cells #[.bool false, .slice none 0 0, .slice none 0 0] 29)) (c3n (hF.keep _ _ _ _ HN0.out id)) (fun hHeld => ?_)
          clear hKK KK
          (try simp only [Nat.zero_add, Act.put, List.setIfInBounds_toArray, List.set_cons_zero, List.set_cons_succ])
          obtain ⟨z34, hZ⟩ : ∃ z34, z34 = z28.alloc (.cells #[.bool false, .slice none 0 0, .slice none 0 0] 29) := ⟨_, rfl⟩
          rw [← hZ] at hA hF hHeld ⊢
          obtain ⟨g11, hg⟩ : ∃ g, g = z28.heap.size := ⟨_, rfl⟩
          have HG11 : Hid (w5.heap.size ≤ g11) := (by rw [hg]; exact HB.out.size : w5.heap.size ≤ g11)
          rw [← hg] at hA ⊢
          replace HB := Lib.hid (HB.out.trans hF.low)
          replace HN0 := Lib.hid (hF.keep _ _ _ _ HN0.out id)
          replace H6 := Lib.hid (hF.owns H6.out id)
          replace H2 := Lib.hid (hF.owns H2.out id)
          have H11 := Lib.hid hA
          clear hZ hg hA hF
          refine wpAnyH_ready (rs := [5]) (by kernel_rfl) (by simp) ?_
          refine AllReadyH.cons rfl (fun KK hKK => ?_) (AllReadyH.nil)
          · skip
            refine reg_copy EN (w := z34) (o := ⟨some 33, _, _, _, _, _⟩) rfl _ _ rfl H2.out rfl rfl (by rw [scl_len]) (HSRC.out.recs.below HB.out (Nat.le_refl _)) (scl_one _) ⟨by omega, by omega⟩ HB.out.size ?_
            intro A9 c9 z35 ho hgr
            simp only [Nat.zero_add, List.nil_append] at ho
            have hF := Frm.grownOwn (T := fun t => t = 9) H2.out hgr rfl HB.out.size
            refine hKK.out _ _ (c3n (hF.keep _ _ _ _ HN0.out (by decide))) (fun hHeld => ?_)
            clear hKK KK
            (try simp only [Nat.zero_add, Act.put, List.setIfInBounds_toArray, List.set_cons_zero, List.set_cons_succ])
            replace HB := Lib.hid (HB.out.trans hF.low)
            replace HN0 := Lib.hid (hF.keep _ _ _ _ HN0.out (by decide))
            replace H6 := Lib.hid (hF.owns H6.out (by decide))
            replace H11 := Lib.hid (hF.keep _ _ _ _ H11.out (by decide))
            have H5 := Lib.hid ho
            clear ho hgr hF H2
            refine wpAnyH_ready (rs := [9]) (by kernel_rfl) (by simp) ?_
            refine AllReadyH.cons rfl (fun KK hKK => ?_) (AllReadyH.nil)
            · skip
              refine reg_copy EI (w := z35) (o := ⟨some 37, _, _, _, _, _⟩) rfl _ _ rfl H6.out rfl rfl (by simp [icl]) (HSRC.out.kids.below HB.out (Nat.le_refl _)) (icl_one _) ⟨by omega, by omega⟩ HB.out.size ?_
              intro B9 d9 z36 ho hgr
              simp only [Nat.zero_add, List.nil_append] at ho
              have hF := Frm.grownOwn (T := fun t => t = 3) H6.out hgr rfl HB.out.size
              refine hKK.out _ _ (c3n (hF.keep _ _ _ _ HN0.out (by decide))) (fun hHeld => ?_)
              clear hKK KK
              (try simp only [Nat.zero_add, Act.put, List.setIfInBounds_toArray, List.set_cons_zero, List.set_cons_succ])
              replace HB := Lib.hid (HB.out.trans hF.low)
              replace HN0 := Lib.hid (hF.keep _ _ _ _ HN0.out (by decide))
              replace H11 := Lib.hid (hF.keep _ _ _ _ H11.out (by decide))
              replace H5 := Lib.hid (hF.owns H5.out (by decide))
              have H9 := Lib.hid ho
              clear ho hgr hF H6
              refine takeH (i := 10) (v := (.agg #[.bool leaf, .slice A9 l.length c9, .slice B9 ks.length d9])) rfl (by kernel_rfl) (by kernel_rfl) (by kernel_rfl) (fun _ _ _ h => h) (by rfl) (by intro w hSw; (try dsimp only at hSw); go_simp) (by assumption) ?_
              (try simp only [Nat.zero_add, Act.put, List.setIfInBounds_toArray, List.set_cons_zero, List.set_cons_succ])
              obtain ⟨q0, q1, q2, qf0, qf1, qf2, ql⟩ := three_of_block H11.out
              have hne : w.heap.size ≠ g11 := by have h1 := HG11.out; have h2 := HNB.out; omega
              have hX := s3_self H11.out (.bool leaf) (.slice A9 l.length c9) (.slice B9 ks.length d9)
              have hF := s3_frm H11.out HG11.out (.bool leaf) (.slice A9 l.length c9) (.slice B9 ks.length d9)
              refine wpAnyH_ready (rs := [12]) (by kernel_rfl) (by simp) ?_
              refine AllReadyH.cons rfl (fun KK hKK => ?_) AllReadyH.nil
              go_simp
              refine hKK.out _ (((z36.setCell ⟨g11, 0, none⟩ (.bool leaf)).setCell ⟨g11, 1, none⟩ (.slice A9 l.length c9)).setCell ⟨g11, 2, none⟩ (.slice B9 ks.length d9)) (c3n (s3_other HN0.out hne (.bool leaf) (.slice A9 l.length c9) (.slice B9 ks.length d9))) (fun hHeld => ?_)
              clear hKK KK
              refine wpAnyH_done (by kernel_rfl) ?_ _
              go_wp2_with fail
              go_meet
              exact ⟨g11, A9, c9, B9, d9, rfl, Lib.hid ⟨HB.out.trans hF.low, hX, hF.owns H5.out (by decide), hF.owns H9.out (by decide)⟩⟩
      · skip
        go_simp
        have hA := heap_alloc_new z27 (.cells #[.bool false, .slice none 0 0, .slice none 0 0] 29)
        have hF : Frm (fun _ => False) w5.heap.size z27 (z27.alloc (.cells #[.bool false, .slice none 0 0, .slice none 0 0] 29)) := Frm.alloc (Frm.refl _ _ _) HB.out.size _
        refine hKK.out _ (z27.alloc (.cells #[.bool false, .slice none 0 0, .slice none 0 0] 29)) (c3n (hF.keep _ _ _ _ HN0.out id)) (fun hHeld => ?_)
        clear hKK KK
        (try simp only [Nat.zero_add, Act.put, List.setIfInBounds_toArray, List.set_cons_zero, List.set_cons_succ])
        obtain ⟨z37, hZ⟩ : ∃ z37, z37 = z27.alloc (.cells #[.bool false, .slice none 0 0, .slice none 0 0] 29) := ⟨_, rfl⟩
        rw [← hZ] at hA hF hHeld ⊢
        obtain ⟨g11, hg⟩ : ∃ g, g = z27.heap.size := ⟨_, rfl⟩
        have HG11 : Hid (w5.heap.size ≤ g11) := (by rw [hg]; exact HB.out.size : w5.heap.size ≤ g11)
        rw [← hg] at hA ⊢
        replace HB := Lib.hid (HB.out.trans hF.low)
        replace HN0 := Lib.hid (hF.keep _ _ _ _ HN0.out id)
        replace H6 := Lib.hid (hF.owns H6.out id)
        have H11 := Lib.hid hA
        clear hZ hg hA hF
        refine wpAnyH_ready (rs := [2]) (by kernel_rfl) (by simp) ?_
        refine AllReadyH.cons rfl (fun KK hKK => ?_) (AllReadyH.nil)
        · skip
          go_simp
          have hA := heap_alloc_new z37 (.cells #[] 9)
          have hF : Frm (fun _ => False) w5.heap.size z37 (z37.alloc (.cells #[] 9)) := Frm.alloc (Frm.refl _ _ _) HB.out.size _
          refine hKK.out _ (z37.alloc (.cells #[] 9)) (c3n (hF.keep _ _ _ _ HN0.out id)) (fun hHeld => ?_)
          clear hKK KK
          (try simp only [Nat.zero_add, Act.put, List.setIfInBounds_toArray, List.set_cons_zero, List.set_cons_succ])
          obtain ⟨z38, hZ⟩ : ∃ z38, z38 = z37.alloc (.cells #[] 9) := ⟨_, rfl⟩
          rw [← hZ] at hA hF hHeld ⊢
          obtain ⟨g2, hg⟩ : ∃ g, g = z37.heap.size := ⟨_, rfl⟩
          have HG2 : Hid (w5.heap.size ≤ g2) := (by rw [hg]; exact HB.out.size : w5.heap.size ≤ g2)
          rw [← hg] at hA ⊢
          replace HB := Lib.hid (HB.out.trans hF.low)
          replace HN0 := Lib.hid (hF.keep _ _ _ _ HN0.out id)
          replace H6 := Lib.hid (hF.owns H6.out id)
          replace H11 := Lib.hid (hF.keep _ _ _ _ H11.out id)
          have H2 := Lib.hid (rowN_at hA HG2.out)
          clear hZ hg hA hF
          refine wpAnyH_ready (rs := [5]) (by kernel_rfl) (by simp) ?_
          refine AllReadyH.cons rfl (fun KK hKK => ?_) (AllReadyH.nil)
          · skip
            refine reg_copy EN (w := z38) (o := ⟨some 33, _, _, _, _, _⟩) rfl _ _ rfl H2.out rfl rfl (by rw [scl_len]) (HSRC.out.recs.below HB.out (Nat.le_refl _)) (scl_one _) ⟨by omega, by omega⟩ HB.out.size ?_
            intro A9 c9 z39 ho hgr
            simp only [Nat.zero_add, List.nil_append] at ho
            have hF := Frm.grownOwn (T := fun t => t = 9) H2.out hgr rfl HB.out.size
            refine hKK.out _ _ (c3n (hF.keep _ _ _ _ HN0.out (by decide))) (fun hHeld => ?_)
            clear hKK KK
            (try simp only [Nat.zero_add, Act.put, List.setIfInBounds_toArray, List.set_cons_zero, List.set_cons_succ])
            replace HB := Lib.hid (HB.out.trans hF.low)
            replace HN0 := Lib.hid (hF.keep _ _ _ _ HN0.out (by decide))
            replace H6 := Lib.hid (hF.owns H6.out (by decide))
            replace H11 := Lib.hid (hF.keep _ _ _ _ H11.out (by decide))
            have H5 := Lib.hid ho
            clear ho hgr hF H2
            refine wpAnyH_ready (rs := [9]) (by kernel_rfl) (by simp) ?_
            refine AllReadyH.cons rfl (fun KK hKK => ?_) (AllReadyH.nil)
            · skip
              refine reg_copy EI (w := z39) (o := ⟨some 37, _, _, _, _, _⟩) rfl _ _ rfl H6.out rfl rfl (by simp [icl]) (HSRC.out.kids.below HB.out (Nat.le_refl _)) (icl_one _) ⟨by omega, by omega⟩ HB.out.size ?_
              intro B9 d9 z40 ho hgr
              simp only [Nat.zero_add, List.nil_append] at ho
              have hF := Frm.grownOwn (T := fun t => t = 3) H6.out hgr rfl HB.out.size
              refine hKK.out _ _ (c3n (hF.keep _ _ _ _ HN0.out (by decide))) (fun hHeld => ?_)
              clear hKK KK
              (try simp only [Nat.zero_add, Act.put, List.setIfInBounds_toArray, List.set_cons_zero, List.set_cons_succ])
              replace HB := Lib.hid (HB.out.trans hF.low)
              replace HN0 := Lib.hid (hF.keep _ _ _ _ HN0.out (by decide))
              replace H11 := Lib.hid (hF.keep _ _ _ _ H11.out (by decide))
              replace H5 := Lib.hid (hF.owns H5.out (by decide))
              have H9 := Lib.hid ho
              clear ho hgr hF H6
              refine takeH (i := 10) (v := (.agg #[.bool leaf, .slice A9 l.length c9, .slice B9 ks.length d9])) rfl (by kernel_rfl) (by kernel_rfl) (by kernel_rfl) (fun _ _ _ h => h) (by rfl) (by intro w hSw; (try dsimp only at hSw); go_simp) (by assumption) ?_
              (try simp only [Nat.zero_add, Act.put, List.setIfInBounds_toArray, List.set_cons_zero, List.set_cons_succ])
              obtain ⟨q0, q1, q2, qf0, qf1, qf2, ql⟩ := three_of_block H11.out
              have hne : w.heap.size ≠ g11 := by have h1 := HG11.out; have h2 := HNB.out; omega
              have hX := s3_self H11.out (.bool leaf) (.slice A9 l.length c9) (.slice B9 ks.length d9)
              have hF := s3_frm H11.out HG11.out (.bool leaf) (.slice A9 l.length c9) (.slice B9 ks.length d9)
              refine wpAnyH_ready (rs := [12]) (by kernel_rfl) (by simp) ?_
              refine AllReadyH.cons rfl (fun KK hKK => ?_) AllReadyH.nil
              go_simp
              refine hKK.out _ (((z40.setCell ⟨g11, 0, none⟩ (.bool leaf)).setCell ⟨g11, 1, none⟩ (.slice A9 l.length c9)).setCell ⟨g11, 2, none⟩ (.slice B9 ks.length d9)) (c3n (s3_other HN0.out hne (.bool leaf) (.slice A9 l.length c9) (.slice B9 ks.length d9))) (fun hHeld => ?_)
              clear hKK KK
              refine wpAnyH_done (by kernel_rfl) ?_ _
              go_wp2_with fail
              go_meet
              exact ⟨g11, A9, c9, B9, d9, rfl, Lib.hid ⟨HB.out.trans hF.low, hX, hF.owns H5.out (by decide), hF.owns H9.out (by decide)⟩⟩
    · skip
      go_simp
      have hA := heap_alloc_new z0 (.cells #[.bool false, .slice none 0 0, .slice none 0 0] 29)
      have hF : Frm (fun _ => False) w5.heap.size z0 (z0.alloc (.cells #[.bool false, .slice none 0 0, .slice none 0 0] 29)) := Frm.alloc (Frm.refl _ _ _) HB.out.size _
      refine hKK.out _ (z0.alloc (.cells #[.bool false, .slice none 0 0, .slice none 0 0] 29)) (c3n (hF.keep _ _ _ _ HN0.out id)) (fun hHeld => ?_)
      clear hKK KK
      (try simp only [Nat.zero_add, Act.put, List.setIfInBounds_toArray, List.set_cons_zero, List.set_cons_succ])
      obtain ⟨z41, hZ⟩ : ∃ z41, z41 = z0.alloc (.cells #[.bool false, .slice none 0 0, .slice none 0 0] 29) := ⟨_, rfl⟩
      rw [← hZ] at hA hF hHeld ⊢
      obtain ⟨g11, hg⟩ : ∃ g, g = z0.heap.size := ⟨_, rfl⟩
      have HG11 : Hid (w5.heap.size ≤ g11) := (by rw [hg]; exact HB.out.size : w5.heap.size ≤ g11)
      rw [← hg] at hA ⊢
      replace HB := Lib.hid (HB.out.trans hF.low)
      replace HN0 := Lib.hid (hF.keep _ _ _ _ HN0.out id)
      have H11 := Lib.hid hA
      clear hZ hg hA hF
      refine wpAnyH_ready (rs := [2, 6]) (by kernel_rfl) (by simp) ?_
      refine AllReadyH.cons rfl (fun KK hKK => ?_) (AllReadyH.cons rfl (fun KK hKK => ?_) (AllReadyH.nil))
      · skip
        go_simp
        have hA := heap_alloc_new z41 (.cells #[] 9)
        have hF : Frm (fun _ => False) w5.heap.size z41 (z41.alloc (.cells #[] 9)) := Frm.alloc (Frm.refl _ _ _) HB.out.size _
        refine hKK.out _ (z41.alloc (.cells #[] 9)) (c3n (hF.keep _ _ _ _ HN0.out id)) (fun hHeld => ?_)
        clear hKK KK
        (try simp only [Nat.zero_add, Act.put, List.setIfInBounds_toArray, List.set_cons_zero, List.set_cons_succ])
        obtain ⟨z42, hZ⟩ : ∃ z42, z42 = z41.alloc (.cells #[] 9) := ⟨_, rfl⟩
        rw [← hZ] at hA hF hHeld ⊢
        obtain ⟨g2, hg⟩ : ∃ g, g = z41.heap.size := ⟨_, rfl⟩
        have HG2 : Hid (w5.heap.size ≤ g2) := (by rw [hg]; exact HB.out.size : w5.heap.size ≤ g2)
        rw [← hg] at hA ⊢
        replace HB := Lib.hid (HB.out.trans hF.low)
        replace HN0 := Lib.hid (hF.keep _ _ _ _ HN0.out id)
        replace H11 := Lib.hid (hF.keep _ _ _ _ H11.out id)
        have H2 := Lib.hid (rowN_at hA HG2.out)
        clear hZ hg hA hF
        refine wpAnyH_ready (rs := [5, 6]) (by kernel_rfl) (by simp) ?_
        refine AllReadyH.cons rfl (fun KK hKK => ?_) (AllReadyH.cons rfl (fun KK hKK => ?_) (AllReadyH.nil))
        · skip
          refine reg_copy EN (w := z42) (o := ⟨some 33, _, _, _, _, _⟩) rfl _ _ rfl H2.out rfl rfl (by rw [scl_len]) (HSRC.out.recs.below HB.out (Nat.le_refl _)) (scl_one _) ⟨by omega, by omega⟩ HB.out.size ?_
          intro A9 c9 z43 ho hgr
          simp only [Nat.zero_add, List.nil_append] at ho
          have hF := Frm.grownOwn (T := fun t => t = 9) H2.out hgr rfl HB.out.size
          refine hKK.out _ _ (c3n (hF.keep _ _ _ _ HN0.out (by decide))) (fun hHeld => ?_)
          clear hKK KK
          (try simp only [Nat.zero_add, Act.put, List.setIfInBounds_toArray, List.set_cons_zero, List.set_cons_succ])
          replace HB := Lib.hid (HB.out.trans hF.low)
          replace HN0 := Lib.hid (hF.keep _ _ _ _ HN0.out (by decide))
          replace H11 := Lib.hid (hF.keep _ _ _ _ H11.out (by decide))
          have H5 := Lib.hid ho
          clear ho hgr hF H2
          refine wpAnyH_ready (rs := [6]) (by kernel_rfl) (by simp) ?_
          refine AllReadyH.cons rfl (fun KK hKK => ?_) (AllReadyH.nil)
          · skip
            go_simp
            have hA := heap_alloc_new z43 (.cells #[] 3)
            have hF : Frm (fun _ => False) w5.heap.size z43 (z43.alloc (.cells #[] 3)) := Frm.alloc (Frm.refl _ _ _) HB.out.size _
            refine hKK.out _ (z43.alloc (.cells #[] 3)) (c3n (hF.keep _ _ _ _ HN0.out id)) (fun hHeld => ?_)
            clear hKK KK
            (try simp only [Nat.zero_add, Act.put, List.setIfInBounds_toArray, List.set_cons_zero, List.set_cons_succ])
            obtain ⟨z44, hZ⟩ : ∃ z44, z44 = z43.alloc (.cells #[] 3) := ⟨_, rfl⟩
            rw [← hZ] at hA hF hHeld ⊢
            obtain ⟨g6, hg⟩ : ∃ g, g = z43.heap.size := ⟨_, rfl⟩
            have HG6 : Hid (w5.heap.size ≤ g6) := (by rw [hg]; exact HB.out.size : w5.heap.size ≤ g6)
            rw [← hg] at hA ⊢
            replace HB := Lib.hid (HB.out.trans hF.low)
            replace HN0 := Lib.hid (hF.keep _ _ _ _ HN0.out id)
            replace H11 := Lib.hid (hF.keep _ _ _ _ H11.out id)
            replace H5 := Lib.hid (hF.owns H5.out id)
            have H6 := Lib.hid (rowI_at hA HG6.out)
            clear hZ hg hA hF
            refine wpAnyH_ready (rs := [9]) (by kernel_rfl) (by simp) ?_
            refine AllReadyH.cons rfl (fun KK hKK => ?_) (AllReadyH.nil)
            · skip
              refine reg_copy EI (w := z44) (o := ⟨some 37, _, _, _, _, _⟩) rfl _ _ rfl H6.out rfl rfl (by simp [icl]) (HSRC.out.kids.below HB.out (Nat.le_refl _)) (icl_one _) ⟨by omega, by omega⟩ HB.out.size ?_
              intro B9 d9 z45 ho hgr
              simp only [Nat.zero_add, List.nil_append] at ho
              have hF := Frm.grownOwn (T := fun t => t = 3) H6.out hgr rfl HB.out.size
              refine hKK.out _ _ (c3n (hF.keep _ _ _ _ HN0.out (by decide))) (fun hHeld => ?_)
              clear hKK KK
              (try simp only [Nat.zero_add, Act.put, List.setIfInBounds_toArray, List.set_cons_zero, List.set_cons_succ])
              replace HB := Lib.hid (HB.out.trans hF.low)
              replace HN0 := Lib.hid (hF.keep _ _ _ _ HN0.out (by decide))
              replace H11 := Lib.hid (hF.keep _ _ _ _ H11.out (by decide))
              replace H5 := Lib.hid (hF.owns H5.out (by decide))
              have H9 := Lib.hid ho
              clear ho hgr hF H6
              refine takeH (i := 10) (v := (.agg #[.bool leaf, .slice A9 l.length c9, .slice B9 ks.length d9])) rfl (by kernel_rfl) (by kernel_rfl) (by kernel_rfl) (fun _ _ _ h => h) (by rfl) (by intro w hSw; (try dsimp only at hSw); go_simp) (by assumption) ?_
              (try simp only [Nat.zero_add, Act.put, List.setIfInBounds_toArray, List.set_cons_zero, List.set_cons_succ])
              obtain ⟨q0, q1, q2, qf0, qf1, qf2, ql⟩ := three_of_block H11.out
              have hne : w.heap.size ≠ g11 := by have h1 := HG11.out; have h2 := HNB.out; omega
              have hX := s3_self H11.out (.bool leaf) (.slice A9 l.length c9) (.slice B9 ks.length d9)
              have hF := s3_frm H11.out HG11.out (.bool leaf) (.slice A9 l.length c9) (.slice B9 ks.length d9)
              refine wpAnyH_ready (rs := [12]) (by kernel_rfl) (by simp) ?_
              refine AllReadyH.cons rfl (fun KK hKK => ?_) AllReadyH.nil
              go_simp
              refine hKK.out _ (((z45.setCell ⟨g11, 0, none⟩ (.bool leaf)).setCell ⟨g11, 1, none⟩ (.slice A9 l.length c9)).setCell ⟨g11, 2, none⟩ (.slice B9 ks.length d9)) (c3n (s3_other HN0.out hne (.bool leaf) (.slice A9 l.length c9) (.slice B9 ks.length d9))) (fun hHeld => ?_)
              clear hKK KK
              refine wpAnyH_done (by kernel_rfl) ?_ _
              go_wp2_with fail
              go_meet
              exact ⟨g11, A9, c9, B9, d9, rfl, Lib.hid ⟨HB.out.trans hF.low, hX, hF.owns H5.out (by decide), hF.owns H9.out (by decide)⟩⟩
        · skip
          go_simp
          have hA := heap_alloc_new z42 (.cells #[] 3)
          have hF : Frm (fun _ => False) w5.heap.size z42 (z42.alloc (.cells #[] 3)) := Frm.alloc (Frm.refl _ _ _) HB.out.size _
          refine hKK.out _ (z42.alloc (.cells #[] 3)) (c3n (hF.keep _ _ _ _ HN0.out id)) (fun hHeld => ?_)
          clear hKK KK
          (try simp only [Nat.zero_add, Act.put, List.setIfInBounds_toArray, List.set_cons_zero, List.set_cons_succ])
          obtain ⟨z46, hZ⟩ : ∃ z46, z46 = z42.alloc (.cells #[] 3) := ⟨_, rfl⟩
          rw [← hZ] at hA hF hHeld ⊢
          obtain ⟨g6, hg⟩ : ∃ g, g = z42.heap.size := ⟨_, rfl⟩
          have HG6 : Hid (w5.heap.size ≤ g6) := (by rw [hg]; exact HB.out.size : w5.heap.size ≤ g6)
          rw [← hg] at hA ⊢
          replace HB := Lib.hid (HB.out.trans hF.low)
          replace HN0 := Lib.hid (hF.keep _ _ _ _ HN0.out id)
          replace H11 := Lib.hid (hF.keep _ _ _ _ H11.out id)
          replace H2 := Lib.hid (hF.owns H2.out id)
          have H6 := Lib.hid (rowI_at hA HG6.out)
          clear hZ hg hA hF
          refine wpAnyH_ready (rs := [5]) (by kernel_rfl) (by simp) ?_
          refine AllReadyH.cons rfl (fun KK hKK => ?_) (AllReadyH.nil)
          · skip
            refine reg_copy EN (w := z46) (o := ⟨some 33, _, _, _, _, _⟩) rfl _ _ rfl H2.out rfl rfl (by rw [scl_len]) (HSRC.out.recs.below HB.out (Nat.le_refl _)) (scl_one _) ⟨by omega, by omega⟩ HB.out.size ?_
            intro A9 c9 z47 ho hgr
            simp only [Nat.zero_add, List.nil_append] at ho
            have hF := Frm.grownOwn (T := fun t => t = 9) H2.out hgr rfl HB.out.size
            refine hKK.out _ _ (c3n (hF.keep _ _ _ _ HN0.out (by decide))) (fun hHeld => ?_)
            clear hKK KK
            (try simp only [Nat.zero_add, Act.put, List.setIfInBounds_toArray, List.set_cons_zero, List.set_cons_succ])
            replace HB := Lib.hid (HB.out.trans hF.low)
            replace HN0 := Lib.hid (hF.keep _ _ _ _ HN0.out (by decide))
            replace H11 := Lib.hid (hF.keep _ _ _ _ H11.out (by decide))
            replace H6 := Lib.hid (hF.owns H6.out (by decide))
            have H5 := Lib.hid ho
            clear ho hgr hF H2
            refine wpAnyH_ready (rs := [9]) (by kernel_rfl) (by simp) ?_
            refine AllReadyH.cons rfl (fun KK hKK => ?_) (AllReadyH.nil)
            · skip
              refine reg_copy EI (w := z47) (o := ⟨some 37, _, _, _, _, _⟩) rfl _ _ rfl H6.out rfl rfl (by simp [icl]) (HSRC.out.kids.below HB.out (Nat.le_refl _)) (icl_one _) ⟨by omega, by omega⟩ HB.out.size ?_
              intro B9 d9 z48 ho hgr
              simp only [Nat.zero_add, List.nil_append] at ho
              have hF := Frm.grownOwn (T := fun t => t = 3) H6.out hgr rfl HB.out.size
              refine hKK.out _ _ (c3n (hF.keep _ _ _ _ HN0.out (by decide))) (fun hHeld => ?_)
              clear hKK KK
              (try simp only [Nat.zero_add, Act.put, List.setIfInBounds_toArray, List.set_cons_zero, List.set_cons_succ])
              replace HB := Lib.hid (HB.out.trans hF.low)
              replace HN0 := Lib.hid (hF.keep _ _ _ _ HN0.out (by decide))
              replace H11 := Lib.hid (hF.keep _ _ _ _ H11.out (by decide))
              replace H5 := Lib.hid (hF.owns H5.out (by decide))
              have H9 := Lib.hid ho
              clear ho hgr hF H6
              refine takeH (i := 10) (v := (.agg #[.bool leaf, .slice A9 l.length c9, .slice B9 ks.length d9])) rfl (by kernel_rfl) (by kernel_rfl) (by kernel_rfl) (fun _ _ _ h => h) (by rfl) (by intro w hSw; (try dsimp only at hSw); go_simp) (by assumption) ?_
              (try simp only [Nat.zero_add, Act.put, List.setIfInBounds_toArray, List.set_cons_zero, List.set_cons_succ])
              obtain ⟨q0, q1, q2, qf0, qf1, qf2, ql⟩ := three_of_block H11.out
              have hne : w.heap.size ≠ g11 := by have h1 := HG11.out; have h2 := HNB.out; omega
              have hX := s3_self H11.out (.bool leaf) (.slice A9 l.length c9) (.slice B9 ks.length d9)
              have hF := s3_frm H11.out HG11.out (.bool leaf) (.slice A9 l.length c9) (.slice B9 ks.length d9)
              refine wpAnyH_ready (rs := [12]) (by kernel_rfl) (by simp) ?_
              refine AllReadyH.cons rfl (fun KK hKK => ?_) AllReadyH.nil
              go_simp
              refine hKK.out _ (((z48.setCell ⟨g11, 0, none⟩ (.bool leaf)).setCell ⟨g11, 1, none⟩ (.slice A9 l.length c9)).setCell ⟨g11, 2, none⟩ (.slice B9 ks.length d9)) (c3n (s3_other HN0.out hne (.bool leaf) (.slice A9 l.length c9) (.slice B9 ks.length d9))) (fun hHeld => ?_)
              clear hKK KK
              refine wpAnyH_done (by kernel_rfl) ?_ _
              go_wp2_with fail
              go_meet
              exact ⟨g11, A9, c9, B9, d9, rfl, Lib.hid ⟨HB.out.trans hF.low, hX, hF.owns H5.out (by decide), hF.owns H9.out (by decide)⟩⟩
      · skip
        go_simp
        have hA := heap_alloc_new z41 (.cells #[] 3)
        have hF : Frm (fun _ => False) w5.heap.size z41 (z41.alloc (.cells #[] 3)) := Frm.alloc (Frm.refl _ _ _) HB.out.size _
        refine hKK.out _ (z41.alloc (.cells #[] 3)) (c3n (hF.keep _ _ _ _ HN0.out id)) (fun hHeld => ?_)
        clear hKK KK
        (try simp only [Nat.zero_add, Act.put, List.setIfInBounds_toArray, List.set_cons_zero, List.set_cons_succ])
        obtain ⟨z49, hZ⟩ : ∃ z49, z49 = z41.alloc (.cells #[] 3) := ⟨_, rfl⟩
        rw [← hZ] at hA hF hHeld ⊢
        obtain ⟨g6, hg⟩ : ∃ g, g = z41.heap.size := ⟨_, rfl⟩
        have HG6 : Hid (w5.heap.size ≤ g6) := (by rw [hg]; exact HB.out.size : w5.heap.size ≤ g6)
        rw [← hg] at hA ⊢
        replace HB := Lib.hid (HB.out.trans hF.low)
        replace HN0 := Lib.hid (hF.keep _ _ _ _ HN0.out id)
        replace H11 := Lib.hid (hF.keep _ _ _ _ H11.out id)
        have H6 := Lib.hid (rowI_at hA HG6.out)
        clear hZ hg hA hF
        refine wpAnyH_ready (rs := [2]) (by kernel_rfl) (by simp) ?_
        refine AllReadyH.cons rfl (fun KK hKK => ?_) (AllReadyH.nil)
        · skip
          go_simp
          have hA := heap_alloc_new z49 (.cells #[] 9)
          have hF : Frm (fun _ => False) w5.heap.size z49 (z49.alloc (.cells #[] 9)) := Frm.alloc (Frm.refl _ _ _) HB.out.size _
          refine hKK.out _ (z49.alloc (.cells #[] 9)) (c3n (hF.keep _ _ _ _ HN0.out id)) (fun hHeld => ?_)
          clear hKK KK
          (try simp only [Nat.zero_add, Act.put, List.setIfInBounds_toArray, List.set_cons_zero, List.set_cons_succ])
          obtain ⟨z50, hZ⟩ : ∃ z50, z50 = z49.alloc (.cells #[] 9) := ⟨_, rfl⟩
          rw [← hZ] at hA hF hHeld ⊢
          obtain ⟨g2, hg⟩ : ∃ g, g = z49.heap.size := ⟨_, rfl⟩
          have HG2 : Hid (w5.heap.size ≤ g2) := (by rw [hg]; exact HB.out.size : w5.heap.size ≤ g2)
          rw [← hg] at hA ⊢
          replace HB := Lib.hid (HB.out.trans hF.low)
          replace HN0 := Lib.hid (hF.keep _ _ _ _ HN0.out id)
          replace H11 := Lib.hid (hF.keep _ _ _ _ H11.out id)
          replace H6 := Lib.hid (hF.owns H6.out id)
          have H2 := Lib.hid (rowN_at hA HG2.out)
          clear hZ hg hA hF
          refine wpAnyH_ready (rs := [5]) (by kernel_rfl) (by simp) ?_
          refine AllReadyH.cons rfl (fun KK hKK => ?_) (AllReadyH.nil)
          · skip
            refine reg_copy EN (w := z50) (o := ⟨some 33, _, _, _, _, _⟩) rfl _ _ rfl H2.out rfl rfl (by rw [scl_len]) (HSRC.out.recs.below HB.out (Nat.le_refl _)) (scl_one _) ⟨by omega, by omega⟩ HB.out.size ?_
            intro A9 c9 z51 ho hgr
            simp only [Nat.zero_add, List.nil_append] at ho
            have hF := Frm.grownOwn (T := fun t => t = 9) H2.out hgr rfl HB.out.size
            refine hKK.out _ _ (c3n (hF.keep _ _ _ _ HN0.out (by decide))) (fun hHeld => ?_)
            clear hKK KK
            (try simp only [Nat.zero_add, Act.put, List.setIfInBounds_toArray, List.set_cons_zero, List.set_cons_succ])
            replace HB := Lib.hid (HB.out.trans hF.low)
            replace HN0 := Lib.hid (hF.keep _ _ _ _ HN0.out (by decide))
            replace H11 := Lib.hid (hF.keep _ _ _ _ H11.out (by decide))
            replace H6 := Lib.hid (hF.owns H6.out (by decide))
            have H5 := Lib.hid ho
            clear ho hgr hF H2
            refine wpAnyH_ready (rs := [9]) (by kernel_rfl) (by simp) ?_
            refine AllReadyH.cons rfl (fun KK hKK => ?_) (AllReadyH.nil)
            · skip
              refine reg_copy EI (w := z51) (o := ⟨some 37, _, _, _, _, _⟩) rfl _ _ rfl H6.out rfl rfl (by simp [icl]) (HSRC.out.kids.below HB.out (Nat.le_refl _)) (icl_one _) ⟨by omega, by omega⟩ HB.out.size ?_
              intro B9 d9 z52 ho hgr
              simp only [Nat.zero_add, List.nil_append] at ho
              have hF := Frm.grownOwn (T := fun t => t = 3) H6.out hgr rfl HB.out.size
              refine hKK.out _ _ (c3n (hF.keep _ _ _ _ HN0.out (by decide))) (fun hHeld => ?_)
              clear hKK KK
              (try simp only [Nat.zero_add, Act.put, List.setIfInBounds_toArray, List.set_cons_zero, List.set_cons_succ])
              replace HB := Lib.hid (HB.out.trans hF.low)
              replace HN0 := Lib.hid (hF.keep _ _ _ _ HN0.out (by decide))
              replace H11 := Lib.hid (hF.keep _ _ _ _ H11.out (by decide))
              replace H5 := Lib.hid (hF.owns H5.out (by decide))
              have H9 := Lib.hid ho
              clear ho hgr hF H6
              refine takeH (i := 10) (v := (.agg #[.bool leaf, .slice A9 l.length c9, .slice B9 ks.length d9])) rfl (by kernel_rfl) (by kernel_rfl) (by kernel_rfl) (fun _ _ _ h => h) (by rfl) (by intro w hSw; (try dsimp only at hSw); go_simp) (by assumption) ?_
              (try simp only [Nat.zero_add, Act.put, List.setIfInBounds_toArray, List.set_cons_zero, List.set_cons_succ])
              obtain ⟨q0, q1, q2, qf0, qf1, qf2, ql⟩ := three_of_block H11.out
              have hne : w.heap.size ≠ g11 := by have h1 := HG11.out; have h2 := HNB.out; omega
              have hX := s3_self H11.out (.bool leaf) (.slice A9 l.length c9) (.slice B9 ks.length d9)
              have hF := s3_frm H11.out HG11.out (.bool leaf) (.slice A9 l.length c9) (.slice B9 ks.length d9)
              refine wpAnyH_ready (rs := [12]) (by kernel_rfl) (by simp) ?_
              refine AllReadyH.cons rfl (fun KK hKK => ?_) AllReadyH.nil
              go_simp
              refine hKK.out _ (((z52.setCell ⟨g11, 0, none⟩ (.bool leaf)).setCell ⟨g11, 1, none⟩ (.slice A9 l.length c9)).setCell ⟨g11, 2, none⟩ (.slice B9 ks.length d9)) (c3n (s3_other HN0.out hne (.bool leaf) (.slice A9 l.length c9) (.slice B9 ks.length d9))) (fun hHeld => ?_)
              clear hKK KK
              refine wpAnyH_done (by kernel_rfl) ?_ _
              go_wp2_with fail
              go_meet
              exact ⟨g11, A9, c9, B9, d9, rfl, Lib.hid ⟨HB.out.trans hF.low, hX, hF.owns H5.out (by decide), hF.owns H9.out (by decide)⟩⟩
  case rest =>
    obtain ⟨b3, A9, c9, B9, d9, rfl, HW⟩ := hcut
    have HBc := Lib.hid (HB5.out.trans (HW.out.low.mono HB5.out.size))
    have HKc := Lib.hid ((HW.out.low.block _ HNB.out).trans HBK5.out)
    obtain ⟨n0, n1, n2, f0, f1, f2, nl⟩ := three_of_block HKc.out
    go_wp2_with fail
    refine (split_apart leaf A c l B d ks _ (HR.out.below HBc.out) HBD.out HLEN.out).mono ?_
    rintro e w6 ⟨A1, c1, B1, d1, A2, c2, B2, d2, rfl, hm1, hm2, hb6, mm, hz, hx1, hx2, hx3, hx4⟩
    have hq1 := sub_le l 0 (cutK leaf l)
    have hq2 := sub_le l (cutK leaf l + skOf leaf) l.length
    have hq3 := kidsOf_le leaf ks 0 (cutK leaf l)
    have hq4 := kidsOf_le leaf ks (cutK leaf l + skOf leaf) l.length
    obtain ⟨N1, hN1⟩ : ∃ N1, sub l 0 (cutK leaf l) = N1 := ⟨_, rfl⟩
    obtain ⟨N2, hN2⟩ : ∃ N2, sub l (cutK leaf l + skOf leaf) l.length = N2 := ⟨_, rfl⟩
    obtain ⟨M1, hM1⟩ : ∃ M1, kidsOf leaf ks 0 (cutK leaf l) = M1 := ⟨_, rfl⟩
    obtain ⟨M2, hM2⟩ : ∃ M2, kidsOf leaf ks (cutK leaf l + skOf leaf) l.length = M2 := ⟨_, rfl⟩
    obtain ⟨s, hs⟩ : ∃ s, rec l (cutK leaf l) = s := ⟨_, rfl⟩
    rw [hN1] at hq1 hm1 ⊢
    rw [hN2] at hq2 hm2 ⊢
    rw [hM1] at hq3 hm1 ⊢
    rw [hM2] at hq4 hm2 ⊢
    rw [hs]
    have HO1 := Lib.hid hm1
    have HO2 := Lib.hid hm2
    have HW6 := Lib.hid (HW.out.below hb6)
    have HB6 := Lib.hid hb6
    have HX1 := Lib.hid hx1
    have HX2 := Lib.hid hx2
    have HX3 := Lib.hid hx3
    have HX4 := Lib.hid hx4
    have HMM := Lib.hid hz
    have ha1 : N1.length ≤ 1000 := by omega
    have ha2 : N2.length ≤ 1000 := by omega
    have ha3 : M1.length ≤ 1000 := by omega
    have ha4 : M2.length ≤ 1000 := by omega
    clear hN1 hN2 hM1 hM2 hs hm1 hm2 hb6 hx1 hx2 hx3 hx4 hq1 hq2 hq3 hq4 hz n0 n1 n2 f0 f1 f2 nl
    have hr1 : ((w6.alloc (.cells #[.bool leaf, .slice A1 N1.length c1, .slice B1 M1.length d1] 25)).alloc (.cells #[.bool leaf, .slice A2 N2.length c2, .slice B2 M2.length d2] 25)).heap[w6.heap.size]? = some (.cells #[.bool leaf, .slice A1 N1.length c1, .slice B1 M1.length d1] 25) := blk_alloc (heap_alloc_new _ _) _
    have hr2 : ((w6.alloc (.cells #[.bool leaf, .slice A1 N1.length c1, .slice B1 M1.length d1] 25)).alloc (.cells #[.bool leaf, .slice A2 N2.length c2, .slice B2 M2.length d2] 25)).heap[w6.heap.size + 1]? = some (.cells #[.bool leaf, .slice A2 N2.length c2, .slice B2 M2.length d2] 25) := heap_alloc_at _ _ _ (by rw [heap_alloc_size])
    have hr3 : Below w6.heap.size w6 ((w6.alloc (.cells #[.bool leaf, .slice A1 N1.length c1, .slice B1 M1.length d1] 25)).alloc (.cells #[.bool leaf, .slice A2 N2.length c2, .slice B2 M2.length d2] 25)) := ((Below.refl _ _).alloc (Nat.le_refl _) _).alloc (by rw [heap_alloc_size]; exact Nat.le_succ _) _
    go_upto_region 7 with (fail)
    obtain ⟨w7, hw7⟩ : ∃ w7, w7 = ((w6.alloc (.cells #[.bool leaf, .slice A1 N1.length c1, .slice B1 M1.length d1] 25)).alloc (.cells #[.bool leaf, .slice A2 N2.length c2, .slice B2 M2.length d2] 25)) := ⟨_, rfl⟩
    rw [← hw7] at hr1 hr2 hr3 ⊢
    clear hw7
    have HR1 := Lib.hid hr1
    have HR2 := Lib.hid hr2
    have HR3 := Lib.hid hr3
    obtain ⟨n0, n1, n2, f0, f1, f2, nl⟩ := three_of_block hr1
    obtain ⟨p0, p1, p2, pf0, pf1, pf2, pl⟩ := three_of_block hr2
    clear hr1 hr2 hr3
    go_wp2_with fail
    refine (join_any leaf leaf A1 c1 N1 B1 d1 M1 s A2 c2 N2 B2 d2 M2 w7 ((Rows2.of HO1.out.recs HO1.out.kids).below HR3.out (Nat.le_refl _)) ((Rows2.of HO2.out.recs HO2.out.kids).below HR3.out (Nat.le_refl _)) ha1 ha2 ha3 ha4).mono ?_
    rintro e w8 ⟨A3, c3, B3, d3, rfl, ho1, ho2, hb8⟩
    have hq5 : (if leaf = true then N1 ++ N2 else N1 ++ s :: N2).length ≤ 2001 := by split <;> simp <;> omega
    have hq6 : (if leaf = true then [] else M1 ++ M2).length ≤ 2001 := by split <;> simp; omega
    obtain ⟨N3, hN3⟩ : ∃ N3, (if leaf = true then N1 ++ N2 else N1 ++ s :: N2) = N3 := ⟨_, rfl⟩
    obtain ⟨M3, hM3⟩ : ∃ M3, (if leaf = true then [] else M1 ++ M2) = M3 := ⟨_, rfl⟩
    rw [hN3] at ho1 hq5 ⊢
    rw [hM3] at ho2 hq6 ⊢
    have HO31 := Lib.hid ho1
    have HO32 := Lib.hid ho2
    have HR18 := Lib.hid ((hb8.block _ nl).trans HR1.out)
    have HR28 := Lib.hid ((hb8.block _ pl).trans HR2.out)
    have HB8 := Lib.hid hb8
    clear hN3 hM3 ho1 ho2 hb8 n0 n1 n2 f0 f1 f2 nl p0 p1 p2 pf0 pf1 pf2 pl
    go_upto_region 8 with (fail)
    obtain ⟨w9, hw9⟩ : ∃ w9, w9 = w8.alloc (.cells #[.bool leaf, .slice A3 N3.length c3, .slice B3 M3.length d3] 25) := ⟨_, rfl⟩
    have hb9 : Below w8.heap.size w8 w9 := by rw [hw9]; exact (Below.refl _ _).alloc (Nat.le_refl _) _
    have hr3 : w9.heap[w8.heap.size]? = some (.cells #[.bool leaf, .slice A3 N3.length c3, .slice B3 M3.length d3] 25) := by rw [hw9]; exact heap_alloc_new _ _
    rw [← hw9]
    clear hw9
    obtain ⟨n0, n1, n2, f0, f1, f2, nl⟩ := three_of_block ((hb9.block _ (lt_of_block HR18.out)).trans HR18.out)
    obtain ⟨p0, p1, p2, pf0, pf1, pf2, pl⟩ := three_of_block ((hb9.block _ (lt_of_block HR28.out)).trans HR28.out)
    obtain ⟨q0, q1, q2, qf0, qf1, qf2, ql⟩ := three_of_block hr3
    have s67 := HR3.out.size
    have s78 := HB8.out.size
    have s89 := hb9.size
    have b69 : Below w6.heap.size w6 w9 := (HR3.out.trans (HB8.out.mono s67)).trans (hb9.mono (Nat.le_trans s67 s78))
    have b10 : Below w9.heap.size w9 (w9.alloc (.cells #[.bool leaf, .slice A1 N1.length c1, .slice B1 M1.length d1, .bool leaf, .slice A2 N2.length c2, .slice B2 M2.length d2, .bool leaf, .slice A3 N3.length c3, .slice B3 M3.length d3] 25)) := (Below.refl _ _).alloc (Nat.le_refl _) _
    have h10 := heap_alloc_new w9 (.cells #[.bool leaf, .slice A1 N1.length c1, .slice B1 M1.length d1, .bool leaf, .slice A2 N2.length c2, .slice B2 M2.length d2, .bool leaf, .slice A3 N3.length c3, .slice B3 M3.length d3] 25)
    have hmz := HMM.out
    have k1 := HO1.out.recs
    have k2 := HO1.out.kids
    have k3 := HO2.out.recs
    have k4 := HO2.out.kids
    have k5 := HO31.out
    have k6 := HO32.out
    have b610 := b69.trans (b10.mono b69.size)
    have b810 : Below w8.heap.size w8 (w9.alloc (.cells #[.bool leaf, .slice A1 N1.length c1, .slice B1 M1.length d1, .bool leaf, .slice A2 N2.length c2, .slice B2 M2.length d2, .bool leaf, .slice A3 N3.length c3, .slice B3 M3.length d3] 25)) := hb9.trans (b10.mono s89)
    have HT : Hid (Trio wc (w9.alloc (.cells #[.bool leaf, .slice A1 N1.length c1, .slice B1 M1.length d1, .bool leaf, .slice A2 N2.length c2, .slice B2 M2.length d2, .bool leaf, .slice A3 N3.length c3, .slice B3 M3.length d3] 25)) w9.heap.size mm w6.heap.size leaf A1 N1.length c1 B1 M1.length d1 A2 N2.length c2 B2 M2.length d2 A3 N3.length c3 B3 M3.length d3 0) := (by
      refine ⟨HB6.out.trans (b610.mono HB6.out.size), h10, fun _ => ⟨⟨_, owns_below k1 b610 (Nat.le_refl _)⟩, ⟨_, owns_below k2 b610 (Nat.le_refl _)⟩, fun k hk => ⟨(k1.lt k hk).1, HX1.out _ k hk⟩, fun k hk => ⟨(k2.lt k hk).1, HX2.out _ k hk⟩⟩,
        fun _ => ⟨⟨_, owns_below k3 b610 (Nat.le_refl _)⟩, ⟨_, owns_below k4 b610 (Nat.le_refl _)⟩, fun k hk => ⟨HX3.out _ k hk, (k3.lt k hk).2⟩, fun k hk => ⟨HX4.out _ k hk, (k4.lt k hk).2⟩⟩,
        fun _ => ⟨⟨_, owns_up (owns_below k5 b810 (Nat.le_refl _)) (Nat.le_trans HB6.out.size s67)⟩, ⟨_, owns_up (owns_below k6 b810 (Nat.le_refl _)) (Nat.le_trans HB6.out.size s67)⟩, fun k hk => ⟨Nat.le_trans s67 (k5.lt k hk).1, Nat.lt_of_lt_of_le (k5.lt k hk).2 s89⟩, fun k hk => ⟨Nat.le_trans s67 (k6.lt k hk).1, Nat.lt_of_lt_of_le (k6.lt k hk).2 s89⟩⟩⟩ : Trio wc (w9.alloc (.cells #[.bool leaf, .slice A1 N1.length c1, .slice B1 M1.length d1, .bool leaf, .slice A2 N2.length c2, .slice B2 M2.length d2, .bool leaf, .slice A3 N3.length c3, .slice B3 M3.length d3] 25)) w9.heap.size mm w6.heap.size leaf A1 N1.length c1 B1 M1.length d1 A2 N2.length c2 B2 M2.length d2 A3 N3.length c3 B3 M3.length d3 0)
    have HM1 : Hid (wc.heap.size ≤ mm ∧ mm ≤ w6.heap.size ∧ w6.heap.size ≤ w9.heap.size) := ⟨hmz.1, hmz.2, b69.size⟩
    clear hb9 hr3 b69 b10 h10 hmz k1 k2 k3 k4 k5 k6 b610 b810 s67 s78 s89 HX1 HX2 HX3 HX4 HO1 HO2 HO31 HO32 HMM
    go_wp2_with fail
    obtain ⟨g, hg⟩ : ∃ g, g = w9.heap.size := ⟨_, rfl⟩
    obtain ⟨w10, hw10⟩ : ∃ w10, w10 = (w9.alloc (.cells #[.bool leaf, .slice A1 N1.length c1, .slice B1 M1.length d1, .bool leaf, .slice A2 N2.length c2, .slice B2 M2.length d2, .bool leaf, .slice A3 N3.length c3, .slice B3 M3.length d3] 25)) := ⟨_, rfl⟩
    rw [← hg] at HT HM1 ⊢
    rw [← hw10] at HT ⊢
    clear hg hw10 n0 n1 n2 f0 f1 f2 nl p0 p1 p2 pf0 pf1 pf2 pl q0 q1 q2 qf0 qf1 qf2 ql HR1 HR2 HR3 HR18 HR28 HB8
    go_loopg [54] 3 (fun gh i wr => ∃ j : Nat, j ≤ 3 ∧ gh = 3 - j ∧ i = .int .i64 j ∧ Hid (Trio wc wr g mm w6.heap.size leaf A1 N1.length c1 B1 M1.length d1 A2 N2.length c2 B2 M2.length d2 A3 N3.length c3 B3 M3.length d3 j))
    case atStart => exact ⟨0, by omega, by omega, rfl, HT⟩
    case round =>
      obtain ⟨j, hj, hgj, rfl, HTR⟩ := hrel
      clear HT
      by_cases hlt : j < 3
      · have hlt2 : (j : Int) < 3 := by omega
        obtain ⟨lo, hi, A', n', c', B', m', d', hn', hm', ho, hback⟩ := HTR.out.one (N := 2001) hlt HM1.out.1 HM1.out.2.1 HM1.out.2.2 (by omega) (by omega) hq5 (by omega) (by omega) hq6
        have HOW := Lib.hid ho
        have HBACK := Lib.hid hback
        have hc0 := ho.c0
        have hc1 := ho.c1
        have hc2 := ho.c2
        clear ho hback
        go_upto_region 11 with (fail)
        obtain ⟨wh, hwh⟩ : ∃ wh, wh = wr := ⟨_, rfl⟩
        subst hwh
        obtain ⟨xs, hxs⟩ := HOW.out.ow.s
        obtain ⟨ys, hys⟩ := HOW.out.ow.i
        have hZ := HOW.out.low.size
        obtain ⟨wx, hwx⟩ : ∃ wx, wx = wh.alloc (.cells #[.bool leaf, .slice A' n' c', .slice B' m' d'] 25) := ⟨_, rfl⟩
        have hxv : wx.heap[wh.heap.size]? = some (.cells #[.bool leaf, .slice A' n' c', .slice B' m' d'] 25) := by rw [hwx]; exact heap_alloc_new _ _
        have cx : Chg (Rng lo hi) wh wx := by rw [hwx]; exact (Chg.refl _ _).alloc _
        have oxs := hxs.alloc (.cells #[.bool leaf, .slice A' n' c', .slice B' m' d'] 25)
        have oys := hys.alloc (.cells #[.bool leaf, .slice A' n' c', .slice B' m' d'] 25)
        rw [← hwx] at oxs oys ⊢
        clear hwx hxs hys hc0 hc1 hc2
        obtain ⟨bx, hbx⟩ : ∃ bx, bx = wh.heap.size := ⟨_, rfl⟩
        rw [← hbx] at hxv ⊢
        have HBX : Hid (wh.heap.size ≤ bx) := (by rw [hbx]; exact Nat.le_refl _ : wh.heap.size ≤ bx)
        clear hbx
        have HCX := Lib.hid cx
        have HOXS := Lib.hid oxs
        have HOYS := Lib.hid oys
        have hzx : wc.heap.size ≤ wx.heap.size := Nat.le_trans hZ cx.size
        have HZX := Lib.hid hzx
        have HXV := Lib.hid hxv
        have hxw := blk_alloc hxv (.cells #[.string ⟨#[122]⟩] 9)
        obtain ⟨n0, n1, n2, f0, f1, f2, nl⟩ := three_of_block hxw
        obtain ⟨m0, m1, m2, e0, e1, e2, el⟩ := three_of_block hxv
        clear cx oxs oys hxv hxw hzx hZ
        go_upto_region 12 with (at_builtin; refine step_push_at EN rfl _ _ rfl HOXS.out rfl #[.string ⟨#[122]⟩] rfl rfl rfl (fun u hu => (by obtain rfl : u = .string ⟨#[122]⟩ := (by simpa using hu); rfl)) (by omega) HZX.out ?_; intro g1 r1 wy hs1 hgr hat; have hxy := blk_grown (blk_alloc HXV.out (.cells #[.string ⟨#[122]⟩] 9)) hgr (owns_ne (HOXS.out.alloc (.cells #[.string ⟨#[122]⟩] 9)) (blk_alloc HXV.out (.cells #[.string ⟨#[122]⟩] 9)) (by decide)); obtain ⟨k0, k1, k2, kf0, kf1, kf2, kl⟩ := three_of_block hxy; have HXY := Lib.hid hxy; have HS1 := Lib.hid hs1; have HGR := Lib.hid hgr; have HAT := Lib.hid hat; clear hxy hs1 hgr hat)
        have hF1 := Frm.grownOwn (T := fun t => t = 9) (HOXS.out.alloc (.cells #[.string ⟨#[122]⟩] 9)) HGR.out rfl (by have := HZX.out; simp; omega)
        have hF2 := Frm.setCell (T := fun t => t = 25) (base := wc.heap.size) HXY.out rfl (Nat.le_trans HOW.out.low.size HBX.out) 1 (.slice (some ⟨g1, 0, none⟩) (n' + 1) r1)
        have hc2 : Chg (Rng lo hi) wh wy := (HCX.out.alloc (.cells #[.string ⟨#[122]⟩] 9)).trans (Chg.ofGrown HGR.out (fun i hi2 => HOW.out.ow.sk i hi2))
        have hc3 := hc2.setCell (.inl HBX.out) 1 (.slice (some ⟨g1, 0, none⟩) (n' + 1) r1)
        have hr1 : wh.heap.size ≤ g1 ∨ Rng lo hi g1 := by
          rcases HAT.out with h | h
          · exact .inr (HOW.out.ow.sk g1 h)
          · exact .inl (Nat.le_trans HCX.out.size h)
        obtain ⟨wz, hwz⟩ : ∃ wz, wz = wy.setCell ⟨bx, 1, none⟩ (.slice (some ⟨g1, 0, none⟩) (n' + 1) r1) := ⟨_, rfl⟩
        have hxz : wz.heap[bx]? = some (.cells #[.bool leaf, .slice (some ⟨g1, 0, none⟩) (n' + 1) r1, .slice B' m' d'] 25) := by rw [hwz]; exact blk_set HXY.out 1 _
        have oxs : wz.ownsRow wc.heap.size 9 1 (.slice (some ⟨g1, 0, none⟩) (n' + 1) r1) (n' + 1) (xs ++ #[Value.string ⟨#[122]⟩].toList) := by rw [hwz]; exact hF2.owns HS1.out (by decide)
        have oys : wz.ownsRow wc.heap.size 3 1 (.slice B' m' d') m' ys := by rw [hwz]; exact hF2.owns (hF1.owns (HOYS.out.alloc (.cells #[.string ⟨#[122]⟩] 9)) (by decide)) (by decide)
        rw [← hwz] at hc3 ⊢
        have hzz : wc.heap.size ≤ wz.heap.size := Nat.le_trans HOW.out.low.size hc3.size
        clear hwz hF1 hF2 hc2 k0 k1 k2 kf0 kf1 kf2 kl n0 n1 n2 f0 f1 f2 nl m0 m1 m2 e0 e1 e2 el HXY HGR HAT HS1 HOXS HOYS HCX HZX HXV
        have HOXS := Lib.hid oxs
        have HOYS := Lib.hid oys
        have HXV := Lib.hid hxz
        have HCZ := Lib.hid hc3
        have HZX := Lib.hid hzz
        have HG1 := Lib.hid hr1
        obtain ⟨n0, n1, n2, f0, f1, f2, nl⟩ := three_of_block (blk_alloc hxz (.cells #[.int .i64 7] 3))
        obtain ⟨m0, m1, m2, e0, e1, e2, el⟩ := three_of_block hxz
        clear oxs oys hxz hc3 hzz hr1
        go_upto_region 13 with (at_builtin; refine step_push_at EI rfl _ _ rfl HOYS.out rfl #[.int .i64 7] rfl rfl rfl (fun u hu => (by obtain rfl : u = .int .i64 7 := (by simpa using hu); rfl)) (by omega) HZX.out ?_; intro g2 r2 wy2 hs1 hgr hat; have hxy := blk_grown (blk_alloc HXV.out (.cells #[.int .i64 7] 3)) hgr (owns_ne (HOYS.out.alloc (.cells #[.int .i64 7] 3)) (blk_alloc HXV.out (.cells #[.int .i64 7] 3)) (by decide)); obtain ⟨k0, k1, k2, kf0, kf1, kf2, kl⟩ := three_of_block hxy; have HXY := Lib.hid hxy; have HS1 := Lib.hid hs1; have HGR := Lib.hid hgr; have HAT := Lib.hid hat; clear hxy hs1 hgr hat)
        have hF1 := Frm.grownOwn (T := fun t => t = 3) (HOYS.out.alloc (.cells #[.int .i64 7] 3)) HGR.out rfl (by have := HZX.out; simp; omega)
        have hF2 := Frm.setCell (T := fun t => t = 25) (base := wc.heap.size) HXY.out rfl (Nat.le_trans HOW.out.low.size HBX.out) 2 (.slice (some ⟨g2, 0, none⟩) (m' + 1) r2)
        have hc2 : Chg (Rng lo hi) wh wy2 := (HCZ.out.alloc (.cells #[.int .i64 7] 3)).trans (Chg.ofGrown HGR.out (fun i hi2 => HOW.out.ow.ik i hi2))
        have hc3 := hc2.setCell (.inl HBX.out) 2 (.slice (some ⟨g2, 0, none⟩) (m' + 1) r2)
        have hr2 : wh.heap.size ≤ g2 ∨ Rng lo hi g2 := by
          rcases HAT.out with h | h
          · exact .inr (HOW.out.ow.ik g2 h)
          · exact .inl (Nat.le_trans HCZ.out.size h)
        obtain ⟨wu, hwu⟩ : ∃ wu, wu = wy2.setCell ⟨bx, 2, none⟩ (.slice (some ⟨g2, 0, none⟩) (m' + 1) r2) := ⟨_, rfl⟩
        have HP : Hid (Pr wh wu wc.heap.size lo hi bx leaf g1 (n' + 1) r1 g2 (m' + 1) r2) := (by
          rw [hwu]
          exact ⟨blk_set HXY.out 2 _, ⟨_, hF2.owns (hF1.owns (HOXS.out.alloc (.cells #[.int .i64 7] 3)) (by decide)) (by decide)⟩, ⟨_, hF2.owns HS1.out (by decide)⟩, hc3, Nat.le_trans HOW.out.low.size hc3.size, HG1.out, hr2⟩ : Pr wh wu wc.heap.size lo hi bx leaf g1 (n' + 1) r1 g2 (m' + 1) r2)
        rw [← hwu]
        clear hwu hF1 hF2 hc2 hc3 hr2 k0 k1 k2 kf0 kf1 kf2 kl n0 n1 n2 f0 f1 f2 nl m0 m1 m2 e0 e1 e2 el HXY HGR HAT HS1 HOXS HOYS HCZ HZX HXV HG1
        obtain ⟨n0, n1, n2, f0, f1, f2, nl⟩ := three_of_block HP.out.x
        go_wp2_with fail
        go_loopg [71] (n' + 1) (fun gh i ws => ∃ t : Nat, t ≤ n' + 1 ∧ gh = n' + 1 - t ∧ i = .int .i64 t ∧ Hid (Pr wh ws wc.heap.size lo hi bx leaf g1 (n' + 1) r1 g2 (m' + 1) r2))
        case atStart => exact ⟨0, by omega, by omega, rfl, HP⟩
        case round =>
          obtain ⟨t, ht, hgt, rfl, HPT⟩ := hrel
          clear n0 n1 n2 f0 f1 f2 nl HP
          obtain ⟨n0, n1, n2, f0, f1, f2, nl⟩ := three_of_block HPT.out.x
          by_cases htl : t < n' + 1
          · have htl2 : (t : Int) < ((n' + 1 : Nat) : Int) := by omega
            have htl3 : (t : Int) < (n' : Int) + 1 := by omega
            obtain ⟨u, hu1, hu2⟩ := HPT.out.cellS t htl
            go_wp2_with fail
            go_roundg (n' + 1 - (t + 1))
            case measure => omega
            case rel => exact ⟨t + 1, by omega, rfl, by go_num, Lib.hid (HPT.out.setS t _)⟩
          · have htl2 : ¬ (t : Int) < ((n' + 1 : Nat) : Int) := by omega
            have htl3 : ¬ (t : Int) < (n' : Int) + 1 := by omega
            clear hgt ht htl
            go_wp2_with fail
            go_loopg [82] (m' + 1) (fun gh i ws => ∃ t : Nat, t ≤ m' + 1 ∧ gh = m' + 1 - t ∧ i = .int .i64 t ∧ Hid (Pr wh ws wc.heap.size lo hi bx leaf g1 (n' + 1) r1 g2 (m' + 1) r2))
            case atStart => exact ⟨0, by omega, by omega, rfl, HPT⟩
            case round =>
              obtain ⟨t2, ht, hgt, rfl, HPI⟩ := hrel
              clear n0 n1 n2 f0 f1 f2 nl HPT htl2 htl3
              obtain ⟨n0, n1, n2, f0, f1, f2, nl⟩ := three_of_block HPI.out.x
              by_cases htl : t2 < m' + 1
              · have htl2 : (t2 : Int) < ((m' + 1 : Nat) : Int) := by omega
                have htl3 : (t2 : Int) < (m' : Int) + 1 := by omega
                obtain ⟨u, hu1, hu2⟩ := HPI.out.cellI t2 htl
                go_wp2_with fail
                go_roundg (m' + 1 - (t2 + 1))
                case measure => omega
                case rel => exact ⟨t2 + 1, by omega, rfl, by go_num, Lib.hid (HPI.out.setI t2 _)⟩
              · have htl2 : ¬ (t2 : Int) < ((m' + 1 : Nat) : Int) := by omega
                have htl3 : ¬ (t2 : Int) < (m' : Int) + 1 := by omega
                go_wp2_with fail
                go_roundg (3 - (j + 1))
                case measure => omega
                case rel => exact ⟨j + 1, by omega, rfl, by go_num, Lib.hid (HBACK.out _ HPI.out.c)⟩
      · have hlt2 : ¬ (j : Int) < 3 := by omega
        have hD : Below wr.heap.size wr wr.drew := below_drewN (Below.refl _ _) 1
        have hlw := HTR.out.low.trans (hD.mono HTR.out.low.size)
        have HKr : Hid (wr.drew.heap[w.heap.size]? = some (NodeObj leaf A l.length c B ks.length d)) := ((hlw.block _ (lt_of_block HKc.out)).trans HKc.out)
        have HWr : Hid (wr.drew.heap[b3]? = some (RNodeObj leaf A9 l.length c9 B9 ks.length d9)) := ((hlw.block _ (lt_of_block HW.out.rno)).trans HW.out.rno)
        have HRn := Lib.hid ((HR.out.below HBc.out).below hlw)
        have HRw : Hid (RdN wr.drew A9 c9 l B9 d9 ks) := (RdN.below ⟨HW.out.rs.reads.1, HW.out.ri.reads.1, HW.out.rs.reads.2, HW.out.ri.reads.2⟩ hlw)
        have HLW := Lib.hid (HBc.out.trans (hlw.mono HBc.out.size))
        have hS0 : C3 wr.drew w.heap.size leaf A l.length c B ks.length d ∧ C3 wr.drew b3 leaf A9 l.length c9 B9 ks.length d9 := ⟨c3n HKr.out, c3r HWr.out⟩
        clear hD hlw
        go_wp2_with fail
        refine wp_region_held_drew (S := fun w' => C3 w' w.heap.size leaf A l.length c B ks.length d ∧ C3 w' b3 leaf A9 l.length c9 B9 ks.length d9) (by kernel_rfl) hS0 (fun hHeld => ?_)
        refine takeH (i := 0) (v := (.agg #[.bool leaf, .slice A l.length c, .slice B ks.length d])) rfl (by kernel_rfl) (by kernel_rfl) (by kernel_rfl) (fun _ _ _ h => h) (by rfl) (by intro w hSw; (try dsimp only at hSw); go_simp) (by assumption) ?_
        (try simp only [Act.put, List.setIfInBounds_toArray, List.set_cons_zero, List.set_cons_succ])
        refine takeH (i := 2) (v := (.agg #[.bool leaf, .slice A9 l.length c9, .slice B9 ks.length d9])) rfl (by kernel_rfl) (by kernel_rfl) (by kernel_rfl) (fun _ _ _ h => h) (by rfl) (by intro w hSw; (try dsimp only at hSw); go_simp) (by assumption) ?_
        (try simp only [Act.put, List.setIfInBounds_toArray, List.set_cons_zero, List.set_cons_succ])
        refine wpAnyH_ready (rs := [1]) (by kernel_rfl) (by simp) ?_
        refine AllReadyH.cons rfl (fun KK hKK => ?_) AllReadyH.nil
        go_simp
        go_wp2_with (go_at_call 12; (refine (plain_any leaf A l.length c B ks.length d _).mono ?_); rintro e y1 ⟨rfl, hb⟩; have HL1 := Lib.hid hb; have hK1 := (hb.block _ (lt_of_block HKr.out)).trans HKr.out; have hW1 := (hb.block _ (lt_of_block HWr.out)).trans HWr.out; have HK1 := Lib.hid hK1; have HW1 := Lib.hid hW1; have hS1 := And.intro (c3n hK1) (c3r hW1); clear hb hK1 hW1)
        refine hKK.out _ _ hS1 (fun hHeld => ?_)
        clear hKK KK
        refine wpAnyH_ready (rs := [3]) (by kernel_rfl) (by simp) ?_
        refine AllReadyH.cons rfl (fun KK hKK => ?_) AllReadyH.nil
        go_simp
        go_wp2_with (go_at_call 23; (refine (rsame_any leaf A c l B d ks A9 c9 B9 d9 y1 (HRn.out.below HL1.out) (HRw.out.below HL1.out) (by omega) (by omega)).mono ?_); rintro e y2 ⟨rfl, hb⟩; have HL2 := Lib.hid hb; have hS2 := And.intro (c3n ((hb.block _ (lt_of_block HK1.out)).trans HK1.out)) (c3r ((hb.block _ (lt_of_block HW1.out)).trans HW1.out)); clear hb)
        refine hKK.out _ _ hS2 (fun hHeld => ?_)
        clear hKK KK
        refine takeH (i := 4) (v := (.bool true)) rfl (by kernel_rfl) (by kernel_rfl) (by kernel_rfl) (fun _ _ _ h => h) (by rfl) (by intro w hSw; (try dsimp only at hSw); go_simp) (by assumption) ?_
        (try simp only [Act.put, List.setIfInBounds_toArray, List.set_cons_zero, List.set_cons_succ])
        refine wpAnyH_done (by kernel_rfl) ?_ _
        go_wp2_with fail
        go_ret
        exact ⟨rfl, (HLW.out.trans (HL1.out.mono HLW.out.size)).trans (HL2.out.mono (Nat.le_trans HLW.out.size HL1.out.size))⟩

theorem pageOwns_walk {H : Type} {enc : TypeId × Value → H} {sp0 : Nat → Bool} {hd0 : Bool} {d0 : DataW H} {p0 : List MemPlace} {b0 : Nat} (v0 : Value) (w : World)
    (hv0 : Value.okWide Try.prog w .any b0 25 v0) (h0 : DataW.Trod enc Try.prog w 0 sp0 hd0 25 v0 d0 p0) :
    Calls Try.prog 8 #[v0] w fun e w' => e = .returned (.bool true) ∧ Below w.heap.size w w' := by
  obtain ⟨leaf, A, c, l, B, d, ks, rfl, hr, -, hA, hB⟩ := open_node hv0 h0
  exact pageOwns_any leaf A c l B d ks w hr hA hB
end Go.Proofs.Ytnjdmaeoebihpaa
