/-
  Both logs behind an Add of a copy: where their rows lie is told, so that the copy's own row may be written over.
-/
import Derived.Test.YtkanlcfinogaeaaUnCopied
namespace Go.Proofs.Ytkanlcfinogaeaa
open Go.RowKit
set_option linter.unusedVariables false
set_option linter.unusedSimpArgs false

/-- No row of the image's lies between a and b. -/
def Away (a b : Nat) (x : Img) : Prop := ∀ f, a ≤ f → f < b → Avoid f x
theorem Away.of {base a b : Nat} {w : World} {x : Img} (h : x.Rd base w) (ha : w.heap.size ≤ a) : Away a b x := fun f h1 _ => Avoid.later h (Nat.le_trans ha h1)
theorem Away.hi {a b k : Nat} {x : Img} (h : Hi k x) (hk : b ≤ k) : Away a b x := fun f _ h2 => Avoid.hi h (by omega)

structure AddedI (w0 : World) (base l r a b : Nat) (S : ULS) (R : RLS) (I : List Img) (ev sv : Value) (J : List ItI) (lv : Value) (w : World) : Prop where
  ur : URep base l S I ev sv w
  rr : RRep base r R J lv w
  ai : ∀ z ∈ I, Away a b z
  aj : ∀ y ∈ J, Away a b y.x
  low : Below w0.heap.size w0 w
  hb : w0.heap.size ≤ base
def Added (w0 : World) (base l r a b : Nat) (S : ULS) (R : RLS) (w : World) : Prop := ∃ I ev sv J lv, AddedI w0 base l r a b S R I ev sv J lv w

section
variable {w0 : World} {base l r a b : Nat} {S S' : ULS} {R : RLS} {w w' : World}
theorem Added.duo (h : Added w0 base l r a b S R w) : Duo w0 base l r S R w := by
  obtain ⟨I, ev, sv, J, lv, h⟩ := h
  exact ⟨⟨I, ev, sv, h.ur⟩, ⟨J, lv, h.rr⟩, h.low, h.hb⟩
theorem AddedI.below {I : List Img} {ev sv : Value} {J : List ItI} {lv : Value} (h : AddedI w0 base l r a b S R I ev sv J lv w) (hb : Below w.heap.size w w') : AddedI w0 base l r a b S R I ev sv J lv w' := by
  have hf : Frm TN base w w' := Frm.ofBelow hb (UR.le ⟨_, _, _, h.ur⟩)
  exact ⟨h.ur.frm hf (Nat.le_refl _) (fun h => h) (fun h => h) (fun h => h) (fun h => h), h.rr.frm hf (Nat.le_refl _) (fun h => h) (fun h => h) (fun h => h), h.ai, h.aj, h.low.trans (hb.mono h.low.size), h.hb⟩
theorem Added.below (h : Added w0 base l r a b S R w) (hb : Below w.heap.size w w') : Added w0 base l r a b S R w' := by
  obtain ⟨I, ev, sv, J, lv, h⟩ := h
  exact ⟨I, ev, sv, J, lv, h.below hb⟩
/-- As both logs are now, told of what is made next. -/
theorem Added.of (K : Duo w0 base l r S R w) (b : Nat) : Added w0 base l r w.heap.size b S R w := by
  obtain ⟨⟨I, ev, sv, u⟩, ⟨J, lv, v⟩, low, hb⟩ := K
  exact ⟨I, ev, sv, J, lv, u, v, fun z hz => Away.of (u.rd z hz) (Nat.le_refl _), fun y hy => Away.of (v.rd y hy) (Nat.le_refl _), low, hb⟩
theorem Added.rd (h : Added w0 base l r a b S R w) {x : Img} (hx : x.Rd w0.heap.size w0) : x.Rd base w := by
  obtain ⟨I, ev, sv, J, lv, h⟩ := h
  have h1 : x.Rd w0.heap.size w := hx.frm (T := TN) (Frm.ofBelow h.low (Nat.le_refl _)) (fun h => h) (Nat.le_refl _)
  exact ⟨h1.1.mono h.hb, h1.2.mono h.hb⟩
/-- A write in a row of values that lies between. -/
theorem Added.poke (h : Added w0 base l r a b S R w) {f : Nat} (hp : Poke f w w') {cs : Array Value} {fr : Nat × Nat} (hf : w.heap[f]? = some (.cells cs 42 fr)) (ha : a ≤ f) (hbf : f < b) (hba : base ≤ f) : Added w0 base l r a b S R w' := by
  obtain ⟨I, ev, sv, J, lv, h⟩ := h
  exact ⟨I, ev, sv, J, lv, h.ur.pokeV hp hf hba fun z hz => h.ai z hz f ha hbf, h.rr.pokeV hp hf hba fun y hy => h.aj y hy f ha hbf, h.ai, h.aj, h.low.trans (hp.low.mono (Nat.le_trans h.hb hba)), h.hb⟩

/-- What Add answers. -/
def addZ (S : ULS) : Int := if (S.entries.length : Int) < S.quota then 0 else 10
def addS (S : ULS) (e : Ent) : ULS := if (S.entries.length : Int) < S.quota then { S with entries := S.entries ++ [e] } else S
def addR (R : RLS) (e : Ent) : RLS := if (cntE R.items : Int) < R.quota then { R with items := R.items ++ [⟨false, ⟨#[]⟩, e⟩] } else R
theorem Duo.addTo {wx : World} (K : Duo w0 base l r S R wx) (hB : Below wx.heap.size wx w) (hbw : b ≤ w.heap.size) (hl : S.entries.length ≤ 200000) (x : Img) (hx : x.Rd base w) (hn1 : x.e.old.length ≤ 1000) (hn2 : x.e.new.length ≤ 1000) (z : Int) (hz : addZ S = z) :
    Calls Try.prog 9 #[.pointer (some ⟨l, 0, none⟩), .agg #[.int .i64 x.e.kind, .int .i64 x.e.id, .string x.e.table, .slice x.oa x.e.old.length x.oc, .slice x.na x.e.new.length x.nc]] w fun e w' => e = .returned (.int .i64 z) ∧ Added w0 base l r wx.heap.size b (addS S x.e) R w' ∧ Frm TU base w w' ∧ ∀ k, wx.heap.size ≤ k → k < w.heap.size → w'.heap[k]? = w.heap[k]? := by
  obtain ⟨I, ev, sv, J, lv, h⟩ := (Added.of K b)
  have hev : ∀ k, ev.ownBlock = some k → k < wx.heap.size := fun k hk => (h.ur.eown.lt k hk).2
  have hll : l < wx.heap.size := lt_of_block h.ur.blk
  replace h := h.below hB
  subst hz
  by_cases hq : (S.entries.length : Int) < S.quota
  · refine (add_core h.ur hl hq x hx hn1 hn2).mono fun e w' hp => ?_
    obtain ⟨rfl, ⟨y, ⟨ev', hu⟩, hy⟩, hf, hk⟩ := hp
    refine ⟨by rw [addZ, if_pos hq], ?_, hf, fun k h1 h2 => hk k h2 (by omega) (fun e => by have := hev k e; omega)⟩
    have hr := h.rr.frm hf (Nat.le_refl _) (by unfold TU; decide) (by unfold TU; decide) (by unfold TU; decide)
    rw [addS, if_pos hq]
    refine ⟨I ++ [y], ev', sv, J, lv, hu, hr, fun z hz => ?_, h.aj, h.low.trans (hf.low.mono h.hb), h.hb⟩
    rcases List.mem_append.1 hz with hz | hz
    · exact h.ai z hz
    · obtain rfl : z = y := by simpa using hz
      exact Away.hi hy hbw
  · refine (add_full ⟨_, _, _, h.ur⟩ hl (by omega) _ _ _ _ _ _ _ _ _).mono fun e w' hp => ?_
    obtain ⟨rfl, hb⟩ := hp
    rw [addZ, addS, if_neg hq, if_neg hq]
    exact ⟨rfl, ⟨I, ev, sv, J, lv, h.below hb⟩, Frm.ofBelow hb (UR.le ⟨_, _, _, h.ur⟩), fun k h1 h2 => hb.block k h2⟩
theorem Added.radd (h : Added w0 base l r a b S' R w) (hl : R.items.length ≤ 100000) (x : Img) (hx : x.Rd w0.heap.size w0) (hwa : w0.heap.size ≤ a) (T : Tie S R) (z : Int) (hz : addZ S = z) :
    Calls Try.prog 10 #[.pointer (some ⟨r, 0, none⟩), .agg #[.int .i64 x.e.kind, .int .i64 x.e.id, .string x.e.table, .slice x.oa x.e.old.length x.oc, .slice x.na x.e.new.length x.nc]] w fun e w' => e = .returned (.int .i64 z) ∧ Added w0 base l r a b S' (addR R x.e) w' ∧ Frm TR base w w' := by
  have hxr := h.rd hx
  obtain ⟨I, ev, sv, J, lv, h⟩ := h
  subst hz
  have hc := T.len
  have hqq := T.quota
  by_cases hq : (cntE R.items : Int) < R.quota
  · refine (radd_core h.rr hl hq x hxr).mono fun e w' hp => ?_
    obtain ⟨rfl, ⟨lv', hr⟩, hf⟩ := hp
    rw [addR, if_pos hq, addZ, if_pos (by rw [hc, ← hqq]; exact hq)]
    refine ⟨rfl, ⟨I, ev, sv, J ++ [⟨false, ⟨#[]⟩, x⟩], lv', h.ur.frm hf (Nat.le_refl _) (by unfold TR; decide) (by unfold TR; decide) (by unfold TR; decide) (by unfold TR; decide), hr, h.ai, fun y hy => ?_, h.low.trans (hf.low.mono h.hb), h.hb⟩, hf⟩
    rcases List.mem_append.1 hy with hy | hy
    · exact h.aj y hy
    · obtain rfl : y = ⟨false, ⟨#[]⟩, x⟩ := by simpa using hy
      exact Away.of hx hwa
  · refine (radd_full ⟨_, _, h.rr⟩ hl (by omega) _ _ _ _ _ _ _ _ _).mono fun e w' hp => ?_
    obtain ⟨rfl, hb⟩ := hp
    rw [addR, if_neg hq, addZ, if_neg (by rw [hc, ← hqq]; exact hq)]
    exact ⟨rfl, ⟨I, ev, sv, J, lv, h.below hb⟩, Frm.ofBelow hb (UR.le ⟨_, _, _, h.ur⟩)⟩
theorem Held.added {n : Nat} (h : Held S R n) (e : Ent) (he : ShortE e) : Held (addS S e) (addR R e) (n + 1) := by
  have hc := h.tie.len
  have hq := h.tie.quota
  by_cases hh : (S.entries.length : Int) < S.quota
  · rw [addS, addR, if_pos hh, if_pos (by rw [← hc, hq]; exact hh)]
    exact h.add _ e he
  · rw [addS, addR, if_neg hh, if_neg (by rw [← hc, hq]; exact hh)]
    exact h.up

/-- What the loop over the copy's values holds. -/
structure Poked (w0 : World) (base l r a b : Nat) (S : ULS) (R : RLS) (x : Img) (w : World) : Prop where
  add : Added w0 base l r a b S R w
  blk : w.heap[a]? = some (.cells x.cells.toArray 35)
  row : 0 < x.e.old.length → ∃ (f : Nat) (cs : Array Value), x.oa = some ⟨f, 0, none⟩ ∧ a < f ∧ f < b ∧ base ≤ f ∧ w.heap[f]? = some (.cells cs 42) ∧ ∀ j, j < x.e.old.length → ∃ z, cs[j * 3 + 1]? = some (.int .i64 z)
theorem Poked.of {wx wc : World} {x : Img} {A1 : Option Addr} {c1 : Nat} {A2 : Option Addr} {c2 : Nat} (hC : Copied wx wc x A1 c1 A2 c2) (hle : base ≤ wx.heap.size) (hN : w.heap[wx.heap.size]? = some (.cells (Img.cells ⟨x.e, A1, c1, A2, c2⟩).toArray 35)) (hF : Frm TP base wc w)
    (hA : Added w0 base l r wx.heap.size wc.heap.size S R w) : Poked w0 base l r wx.heap.size wc.heap.size S R ⟨x.e, A1, c1, A2, c2⟩ w := by
  refine ⟨hA, hN, fun hn => ?_⟩
  have ho := hC.own hn
  rcases ho.2 with ⟨h1, h2⟩ | ⟨g, cap, cur, h1, hb, hg, hnc, hcm, hsz, ht⟩
  · exact absurd h2 (Nat.ne_of_gt hn)
  · injection h1 with h1 h2 h3
    refine ⟨g, cur, h1, by omega, lt_of_block hg, by omega, hF.blk hg (by unfold TP TU TR; decide), fun j hj => ?_⟩
    obtain ⟨p, hp⟩ : ∃ p, x.e.old[j]? = some p := ⟨_, List.getElem?_eq_getElem hj⟩
    have h := (vcells_at _ _ _ hp).2.1
    rw [← ht, List.getElem?_take] at h
    have hj' : j < x.e.old.length := hj
    rw [if_pos (by omega), Array.getElem?_toList] at h
    exact ⟨_, h⟩
theorem Copied.rdD {wx wc : World} {x : Img} {A1 : Option Addr} {c1 : Nat} {A2 : Option Addr} {c2 : Nat} (hC : Copied wx wc x A1 c1 A2 c2) (base : Nat) : (⟨x.e, A1, c1, A2, c2⟩ : Img).Rd base wc.drew := hC.rd base
theorem Poked.step {x : Img} (h : Poked w0 base l r a b S R x w) {f : Nat} (hf : x.oa = some ⟨f, 0, none⟩) (hn : 0 < x.e.old.length) (i : Nat) (z : Int) : Poked w0 base l r a b S R x (w.setCell ⟨f, i, none⟩ (.int .i64 z)) := by
  obtain ⟨f', cs, h1, h2, h3, h4, h5, h6⟩ := h.row hn
  rw [hf] at h1
  injection h1 with h1
  injection h1 with h1
  subst h1
  have hp := Poke.set h5 i (.int .i64 z)
  refine ⟨h.add.poke hp h5 (Nat.le_of_lt h2) h3 h4, (hp.but a (Nat.ne_of_lt h2) (lt_of_block h.blk)).trans h.blk, fun _ => ⟨f, _, hf, h2, h3, h4, blk_set h5 i _, fun j hj => ?_⟩⟩
  obtain ⟨y, hy⟩ := h6 j hj
  by_cases hi : i = j * 3 + 1
  · subst hi
    have hlt : j * 3 + 1 < cs.size := (Array.getElem?_eq_some_iff.1 hy).1
    exact ⟨z, by simp [Array.getElem?_setIfInBounds, hlt]⟩
  · exact ⟨y, by rw [← hy]; simp [Array.getElem?_setIfInBounds, hi]⟩
/-- A value's number, to be raised. -/
theorem Poked.cell {x : Img} (h : Poked w0 base l r a b S R x w) {j : Nat} (hj : j < x.e.old.length) : ∃ (f : Nat) (z : Int), x.oa = some ⟨f, 0, none⟩ ∧ w.cell? ⟨f, j * 3 + 1, none⟩ = some (.int .i64 z) ∧ w.frozen? ⟨f, j * 3 + 1, none⟩ = false := by
  obtain ⟨f, cs, h1, h2, h3, h4, h5, h6⟩ := h.row (by omega)
  obtain ⟨z, hz⟩ := h6 j hj
  exact ⟨f, z, h1, (cell_of_block h5 (j * 3 + 1)).trans hz, free_of_block h5 (j * 3 + 1)⟩
end
end Go.Proofs.Ytkanlcfinogaeaa
