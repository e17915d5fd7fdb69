/-
  Package arena: each method in one contract, with what it may write told exactly; and a row of numbers that grows beside an arena.
-/
import Derived.Test.YtmlgockejacjeaaArQuota
namespace Go.Proofs.Ytmlgockejacjeaa
open Go.RowKit
set_option linter.unusedVariables false
set_option linter.unusedSimpArgs false

theorem Grows.ofBelow {own : Nat → Prop} {w w' : World} (hb : Below w.heap.size w w') : Grows own own w w' := ⟨Chg.ofBelow hb (fun i h1 h2 => by omega), fun _ h => .inl h⟩
theorem Grows.drewN (own : Nat → Prop) (w : World) (n : Nat) : Grows own own w (w.drewN n) := Grows.ofBelow (below_drewN (Below.refl _ _) n)
theorem AR.ofBelow {base a : Nat} {S : ArS} {own : Nat → Prop} {w w' : World} (h : AR base a S own w) (hb : Below w.heap.size w w') : AR base a S own w' := h.stay (fun k hk => hb.block k (h.lt k hk).2) (fun k c hc => hb.block k (lt_of_block hc))

def ArS.allocE (S : ArS) : Int := if S.left = 0 then 9 else 0
def ArS.bad (S : ArS) (n : Int) : Int := if (S.page n).isSome then 0 else 2
def ArS.freeS (S : ArS) (n : Int) : ArS := if (S.page n).isSome then S.drop n else S
def ArS.putS (S : ArS) (n : Int) (l : List UInt8) : ArS := if (S.page n).isSome then S.put n l else S
theorem ArS.Ok.allocS {S : ArS} (ok : S.Ok) : S.alloc.2.Ok := by
  by_cases h : S.left = 0
  · unfold ArS.alloc; rw [if_pos h]; exact ok
  · exact (alloc_plain ok h).1
theorem ArS.Ok.freeS {S : ArS} (ok : S.Ok) (n : Int) : (S.freeS n).Ok := by
  unfold ArS.freeS
  split
  · rename_i h
    obtain ⟨l, hl⟩ := Option.isSome_iff_exists.1 h
    exact ok.drop hl
  · exact ok
theorem ArS.Ok.putS {S : ArS} (ok : S.Ok) (n : Int) (l : List UInt8) : (S.putS n l).Ok := by
  unfold ArS.putS
  split
  · rename_i h
    obtain ⟨l', hl⟩ := Option.isSome_iff_exists.1 h
    exact ok.put hl l
  · exact ok

theorem op_alloc {base a : Nat} {S : ArS} {own : Nat → Prop} {w : World} (h : AR base a S own w) (ok : S.Ok) :
    Calls Try.prog 10 #[.pointer (some ⟨a, 0, none⟩)] w fun e w' => e = .returned (.tuple #[.int .i64 S.alloc.1, .int .i64 S.allocE]) ∧ ∃ own', AR base a S.alloc.2 own' w' ∧ Grows own own' w w' := by
  by_cases hl : S.left = 0
  · have e1 : S.alloc = (0, S) := by unfold ArS.alloc; rw [if_pos hl]
    have e2 : S.allocE = 9 := by unfold ArS.allocE; rw [if_pos hl]
    rw [e1, e2]
    refine (alloc_full h ok hl).mono ?_
    rintro e w' ⟨rfl, n, rfl⟩
    exact ⟨rfl, own, h.drewN n, Grows.drewN own w n⟩
  · have e2 : S.allocE = 0 := by unfold ArS.allocE; rw [if_neg hl]
    rw [e2]
    unfold ArS.alloc
    rw [if_neg hl]
    rcases hf : S.free.getLast? with _ | n
    · rw [List.getLast?_eq_none_iff] at hf
      exact alloc_new h ok hl hf
    · obtain ⟨fr, hfr⟩ := List.getLast?_eq_some_iff.1 hf
      have hd : S.free.dropLast = fr := by rw [hfr]; simp
      rw [hd]
      exact alloc_again h ok hl fr n hfr
theorem op_free {base a : Nat} {S : ArS} {own : Nat → Prop} {w : World} (h : AR base a S own w) (ok : S.Ok) (n : Int) (hn : (Lit.int .i64 n).wf = true) :
    Calls Try.prog 17 #[.pointer (some ⟨a, 0, none⟩), .int .i64 n] w fun e w' => e = .returned (.int .i64 (S.bad n)) ∧ ∃ own', AR base a (S.freeS n) own' w' ∧ Grows own own' w w' := by
  unfold ArS.bad ArS.freeS
  rcases hp : S.page n with _ | l
  · refine (free_out h ok n hn hp).mono ?_
    rintro e w' ⟨rfl, rfl⟩
    exact ⟨rfl, own, h, Grows.refl _ _⟩
  · exact free_in h ok n hp
theorem op_store {base a : Nat} {S : ArS} {own : Nat → Prop} {w : World} (h : AR base a S own w) (ok : S.Ok) (n : Int) (hn : (Lit.int .i64 n).wf = true) (b c : Nat) (l' : List UInt8) (hl' : l'.length = 1024) (hb : w.heap[b]? = some (.cells (bcells l') 5)) :
    Calls Try.prog 12 #[.pointer (some ⟨a, 0, none⟩), .int .i64 n, .slice (some ⟨b, 0, none⟩) 1024 c] w fun e w' => e = .returned (.int .i64 (S.bad n)) ∧ ∃ own', AR base a (S.putS n l') own' w' ∧ Grows own own' w w' := by
  unfold ArS.bad ArS.putS
  rcases hp : S.page n with _ | l
  · refine (store_out h ok n hn hp _).mono ?_
    rintro e w' ⟨rfl, rfl⟩
    exact ⟨rfl, own, h, Grows.refl _ _⟩
  · exact store_in h ok n hp b c l' hl' _ hb

/-! ### A row of numbers beside an arena -/
structure DR (base a : Nat) (own : Nat → Prop) (w : World) (S : ArS) (l : List Int) (v : Value) (own1 : Nat → Prop) (wr : World) : Prop where
  ar : AR base a S own1 wr
  gr : Grows own own1 w wr
  out : wr.ownsRow w.heap.size 3 1 v l.length (l.map (Value.int .i64))
  off : ∀ k, v.ownBlock = some k → ¬ own1 k
theorem DR.start {base a : Nat} {own : Nat → Prop} {w : World} {S : ArS} (h : AR base a S own w) : DR base a own w S [] (.slice none 0 0) own w := ⟨h, Grows.refl _ _, World.ownsRow_nil _ _ _ _, fun k hk => by cases hk⟩
theorem DR.op {base a : Nat} {own own1 own2 : Nat → Prop} {w wr w2 : World} {S S' : ArS} {l : List Int} {v : Value} (h : DR base a own w S l v own1 wr) (hA : AR base a S' own2 w2) (hg : Grows own1 own2 wr w2) : DR base a own w S' l v own2 w2 := by
  refine ⟨hA, h.gr.trans hg, owns_same h.out fun k hk => hg.chg.block k (h.out.lt k hk).2 (h.off k hk), fun k hk ho => ?_⟩
  rcases hg.news k ho with h1 | h1
  · exact h.off k hk h1
  · have := (h.out.lt k hk).2; omega
theorem DR.news {base a : Nat} {own own1 : Nat → Prop} {w wr w2 : World} {S : ArS} {l : List Int} {v : Value} (h : DR base a own w S l v own1 wr) (hb : Below wr.heap.size wr w2) : DR base a own w S l v own1 w2 := h.op (h.ar.ofBelow hb) (Grows.ofBelow hb)
theorem DR.app {base a : Nat} {own own1 : Nat → Prop} {w wr w2 : World} {S : ArS} {l news : List Int} {v v' : Value} (h : DR base a own w S l v own1 wr) (ho : w2.ownsRow w.heap.size 3 1 v' (l.length + news.length) (l.map (Value.int .i64) ++ news.map (Value.int .i64))) (hg : wr.grownBy w2 v.ownBlock) (hat : v'.ownBlock = v.ownBlock ∨ v'.ownBlock = some wr.heap.size) : DR base a own w S (l ++ news) v' own1 w2 := by
  have hlt := h.ar.lt
  refine ⟨?_, h.gr.after ?_, by simpa using ho, ?_⟩
  · refine h.ar.stay (fun k hk => hg.block k (hlt k hk).2 (fun e => h.off k e.symm hk)) (fun k c hc => hg.block k (lt_of_block hc) (fun e => owns_ne h.out hc (by decide) e))
  · exact Chg.ofGrown hg fun i hi => (h.out.lt i hi).1
  · intro k hk ho
    rcases hat with e | e
    · exact h.off k (e ▸ hk) ho
    · rw [e] at hk; cases hk
      have := (hlt _ ho).2; omega
/-- 'append(out, numbers)', the numbers just laid. -/
theorem step_app {base a : Nat} {own own1 : Nat → Prop} {w wr : World} {S : ArS} {l : List Int} {v : Value} {ops : Array Oper} {rest : List Oper} {o : Oper} {x : Act} {Q : Exit → Act → World → Prop} (hgd : o.guard = none) (s t : Operand)
    (ho : o.op = .call { callee := .builtin .append, args := #[s, t], argTypes := #[48, 48] }) (h : DR base a own w S l v own1 wr) (hs : x.eval s = v) (news : List Int) (c : Nat) (ht : x.eval t = .slice (some ⟨wr.heap.size, 0, none⟩) news.length c)
    (hlen : l.length ≤ 1000000 ∧ news.length ≤ 100000)
    (hK : ∀ A' c' w2, DR base a own w S (l ++ news) (.slice A' (l.length + news.length) c') own1 w2 → (∀ (k : Nat) (cs : Array Value) (t : TypeId), t ≠ 3 → wr.heap[k]? = some (Obj.cells cs t) → w2.heap[k]? = some (Obj.cells cs t)) → wpList Try.prog ops Q rest (x.put o.dst (.slice A' (l.length + news.length) c')) w2) :
    wpList Try.prog ops Q (o :: rest) x (wr.alloc (.cells (news.map (Value.int .i64)).toArray 3)) := by
  obtain ⟨i0, hi, hz0, hz1, hz2⟩ := info_parts info_I
  have h2 := h.news ((Below.refl _ _).alloc (Nat.le_refl _) (.cells (news.map (Value.int .i64)).toArray 3))
  have hsz : w.heap.size ≤ (wr.alloc (.cells (news.map (Value.int .i64)).toArray 3)).heap.size := h2.gr.chg.size
  refine wpList_append_own_at _ hgd s t 48 ho w.heap.size 3 i0 (.int .i64 0) 1 8 Try.underlying48 hi hz0 hz1 hz2 rfl (by decide) v l.length _ hs h2.out ⟨wr.heap.size, 0, none⟩ news.length c (news.map (Value.int .i64)) ht (by simp) (fun j u hj => ?_) (fun u hu => ?_) (by simp only [maxLen]; omega) (by omega) hsz ?_
  · rw [Addr.add_lit, Nat.zero_add, cell_of_block (heap_alloc_new _ _)]
    simpa using hj
  · simp at hu
    obtain ⟨z, _, rfl⟩ := hu
    rfl
  · intro v' w2 hown hg _ hat
    have hd := h2.app (news := news) hown hg hat
    obtain ⟨A', c', rfl⟩ := own_form hown
    exact hK A' c' w2 hd fun k cs t ht hk => blk_grown (blk_alloc hk _) hg (owns_ne h2.out (blk_alloc hk _) ht)
/-- 'append(out, numbers...)', the numbers in a row of their own. -/
theorem step_app' {base a : Nat} {own own1 : Nat → Prop} {w wr : World} {S : ArS} {l : List Int} {v : Value} {ops : Array Oper} {rest : List Oper} {o : Oper} {x : Act} {Q : Exit → Act → World → Prop} (hgd : o.guard = none) (s t : Operand)
    (ho : o.op = .call { callee := .builtin .append, args := #[s, t], argTypes := #[48, 48] }) (h2 : DR base a own w S l v own1 wr) (hs : x.eval s = v) (news : List Int) (c : Nat) (ad : Addr) (ht : x.eval t = .slice (some ad) news.length c)
    (hc : ∀ j u, (news.map (Value.int .i64))[j]? = some u → wr.cell? (ad.add j) = some u)
    (hlen : l.length ≤ 1000000 ∧ news.length ≤ 100000)
    (hK : ∀ A' c' w2, DR base a own w S (l ++ news) (.slice A' (l.length + news.length) c') own1 w2 → (∀ (k : Nat) (cs : Array Value) (t : TypeId), t ≠ 3 → wr.heap[k]? = some (Obj.cells cs t) → w2.heap[k]? = some (Obj.cells cs t)) → wpList Try.prog ops Q rest (x.put o.dst (.slice A' (l.length + news.length) c')) w2) :
    wpList Try.prog ops Q (o :: rest) x wr := by
  obtain ⟨i0, hi, hz0, hz1, hz2⟩ := info_parts info_I
  have hsz : w.heap.size ≤ wr.heap.size := h2.gr.chg.size
  refine wpList_append_own_at _ hgd s t 48 ho w.heap.size 3 i0 (.int .i64 0) 1 8 Try.underlying48 hi hz0 hz1 hz2 rfl (by decide) v l.length _ hs h2.out ad news.length c (news.map (Value.int .i64)) ht (by simp) hc (fun u hu => ?_) (by simp only [maxLen]; omega) (by omega) hsz ?_
  · simp at hu
    obtain ⟨z, _, rfl⟩ := hu
    rfl
  · intro v' w2 hown hg _ hat
    have hd := h2.app (news := news) hown hg hat
    obtain ⟨A', c', rfl⟩ := own_form hown
    exact hK A' c' w2 hd fun k cs t ht hk => blk_grown hk hg (owns_ne h2.out hk ht)
/-- 'append(out, none...)'. -/
theorem run_app_nil {w : World} {base n : Nat} {v : Value} {xs : List Value} (h : w.ownsRow base 3 1 v n xs) (ty : TypeId) : (Builtin.append_ #[48, 48] ty #[v, .slice none 0 0]).run Try.prog w = .ok v w := by
  obtain ⟨i0, hi, hz0, hz1, hz2⟩ := info_parts info_I
  rcases h.2 with ⟨rfl, rfl⟩ | ⟨g, cap, cur, rfl, _, _, hnc, _⟩
  · simp [Builtin.append_, run_underlying Try.underlying48, sizeOf, typeInfo, hi, Builtin.lenOf, Builtin.firstCells, loadCells, loadCellsFrom]
  · simp [Builtin.append_, run_underlying Try.underlying48, sizeOf, typeInfo, hi, Builtin.lenOf, Builtin.firstCells, loadCells, loadCellsFrom, hnc, storeCells]
theorem step_app_nil {w : World} {base n : Nat} {v : Value} {xs : List Value} {ops : Array Oper} {rest : List Oper} {o : Oper} {x : Act} {Q : Exit → Act → World → Prop} (hgd : o.guard = none) (s t : Operand)
    (ho : o.op = .call { callee := .builtin .append, args := #[s, t], argTypes := #[48, 48] }) (h : w.ownsRow base 3 1 v n xs) (hs : x.eval s = v) (ht : x.eval t = .slice none 0 0)
    (hK : wpList Try.prog ops Q rest (x.put o.dst v) w) : wpList Try.prog ops Q (o :: rest) x w := by
  refine wpList_plain hgd fun K hK' => ?_
  unfold Oper.wp execOp
  simp only [ho, resolve, invoke, builtin, Sem.run_bind, Sem.run_pure, Result.andThen_ok, List.map_toArray, List.map_cons, List.map_nil, hs, ht, run_app_nil h]
  exact hK' _ _ hK
end Go.Proofs.Ytmlgockejacjeaa
