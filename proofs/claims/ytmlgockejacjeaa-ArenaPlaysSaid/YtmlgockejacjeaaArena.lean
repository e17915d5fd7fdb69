/-
  Package arena: how an arena lies in memory, and the walks of its methods.
-/
import Derived.Test.YtmlgockejacjeaaArClone
import Derived.Laws.Tables
import Derived.Laws.CopyRow
import Derived.RegionTactic
import Derived.Deep.QuietTactic
import Derived.BigQuiet
import Derived.WalkSmall
namespace Go.Proofs.Ytmlgockejacjeaa
open Go.RowKit
set_option linter.unusedVariables false
set_option linter.unusedSimpArgs false

/-! ### A page: an array of 1024 bytes -/
/-- A new page's cells. -/
def Zp : Array Value := Array.replicate 1024 (.int .u8 0)
theorem Zp_size : Zp.size = 1024 := by simp [Zp]

/-- An operation that yields, met by its own run. -/
theorem wpList_run {P : Program} {ops : Array Oper} {Q : Exit → Act → World → Prop} {a : Act} {w : World} {rest : List Oper} {o : Oper} (hg : o.guard = none) {v : Value} {w' : World}
    (hr : (execOp a.eval o).run P w = .ok (.value v) w') (h : wpList P ops Q rest (a.put o.dst v) w') : wpList P ops Q (o :: rest) a w :=
  wpList_plain hg fun K hK => by
    unfold Oper.wp
    rw [hr]
    exact hK _ _ h
theorem wpList_skipped {P : Program} {ops : Array Oper} {Q : Exit → Act → World → Prop} {a : Act} {w : World} {rest : List Oper} {o : Oper} (hg : o.guard = none) {w' : World}
    (hr : (execOp a.eval o).run P w = .ok .skip w') (h : wpList P ops Q rest (a.put o.dst undef) w') : wpList P ops Q (o :: rest) a w :=
  wpList_plain hg fun K hK => by
    unfold Oper.wp
    rw [hr]
    exact hK _ _ h

theorem build_page (w : World) : (Instr.build 69 #[]).run Try.prog w = .ok (.agg Zp) w := by kernel_rfl
theorem exec_build_page (ρ : Operand → Value) (o : Oper) (ho : o.op = .build 69 #[]) (w : World) : (execOp ρ o).run Try.prog w = .ok (.value (.agg Zp)) w := by
  unfold execOp
  simp only [ho, List.map_toArray, List.map_nil, Sem.run_bind, build_page, Result.andThen_ok, Sem.run_pure]
theorem exec_box_page (ρ : Operand → Value) (o : Oper) (x : Operand) (c : Array Value) (ho : o.op = .box 69 x) (hx : ρ x = .agg c) (w : World) :
    (execOp ρ o).run Try.prog w = .ok (.value (.pointer (some ⟨w.heap.size, 0, none⟩))) (w.alloc (.cells c 69)) := by
  unfold execOp
  simp only [ho, hx]
  simp [Instr.box, newVar, newRow, Value.cells]

/-- Bytes as cells. -/
def bcells (l : List UInt8) : Array Value := (l.map fun c => Value.int .u8 (c.toNat : Int)).toArray
/-- A new page's bytes. -/
def zpage : List UInt8 := List.replicate 1024 0
theorem zpage_len : zpage.length = 1024 := List.length_replicate
theorem Zp_eq : Zp = bcells zpage := by
  unfold Zp bcells zpage
  rw [List.map_replicate, List.toArray_replicate]
  rfl

/-! ### An arena in memory -/
/-- What an arena is: its pages' bytes (none: not in use), the numbers that were given back, the quota. -/
structure ArS where
  pages : List (Option (List UInt8))
  free : List Int
  quota : Int

/-- A page's pointer. -/
def ptrV : Option Nat → Value
  | none => .pointer none
  | some b => .pointer (some ⟨b, 0, none⟩)

/-- Arena S lies at block a: its two slices pv, fv; its pages' blocks. -/
structure ARep (base a : Nat) (S : ArS) (pv fv : Value) (pbs : List (Option Nat)) (w : World) : Prop where
  lo : base ≤ a
  blk : w.heap[a]? = some (.cells #[pv, fv, .int .i64 S.quota] 67)
  pown : w.ownsRow base 68 1 pv pbs.length (pbs.map ptrV)
  fown : w.ownsRow base 3 1 fv S.free.length (S.free.map (Value.int .i64))
  len : pbs.length = S.pages.length
  at_ : ∀ (i : Nat) (b : Nat), pbs[i]? = some (some b) → ∃ l : List UInt8, S.pages[i]? = some (some l) ∧ l.length = 1024 ∧ w.heap[b]? = some (Obj.cells (bcells l) 69)
  gap : ∀ i : Nat, pbs[i]? = some none → S.pages[i]? = some none

/-- The blocks of an arena that its methods write. -/
def AOwn (a : Nat) (pv fv : Value) (k : Nat) : Prop := k = a ∨ pv.ownBlock = some k ∨ fv.ownBlock = some k
/-- Arena S lies at block a; own: what its methods write. -/
def AR (base a : Nat) (S : ArS) (own : Nat → Prop) (w : World) : Prop := ∃ pv fv pbs, own = AOwn a pv fv ∧ ARep base a S pv fv pbs w

/-- What stays where the arena's own blocks, and all pages, stay. -/
theorem AR.stay {base a : Nat} {S : ArS} {own : Nat → Prop} {w w' : World} (h : AR base a S own w) (hk : ∀ k, own k → w'.heap[k]? = w.heap[k]?)
    (hp : ∀ (k : Nat) (c : Array Value), w.heap[k]? = some (Obj.cells c 69) → w'.heap[k]? = w.heap[k]?) : AR base a S own w' := by
  obtain ⟨pv, fv, pbs, rfl, R⟩ := h
  refine ⟨pv, fv, pbs, rfl, R.lo, (hk a (.inl rfl)).trans R.blk, owns_same R.pown fun k h => hk k (.inr (.inl h)), owns_same R.fown fun k h => hk k (.inr (.inr h)), R.len, fun i b hb => ?_, R.gap⟩
  obtain ⟨l, h1, h2, h3⟩ := R.at_ i b hb
  exact ⟨l, h1, h2, (hp _ _ h3).trans h3⟩
theorem AR.lt {base a : Nat} {S : ArS} {own : Nat → Prop} {w : World} (h : AR base a S own w) : ∀ k, own k → base ≤ k ∧ k < w.heap.size := by
  obtain ⟨pv, fv, pbs, rfl, R⟩ := h
  rintro k (rfl | h | h)
  · exact ⟨R.lo, lt_of_block R.blk⟩
  · exact R.pown.lt k h
  · exact R.fown.lt k h
theorem AR.alloc {base a : Nat} {S : ArS} {own : Nat → Prop} {w : World} (h : AR base a S own w) (o : Obj) : AR base a S own (w.alloc o) :=
  h.stay (fun k hk => Below.heap_alloc _ _ _ (h.lt k hk).2) (fun k c hc => Below.heap_alloc _ _ _ (lt_of_block hc))
theorem AR.drewN {base a : Nat} {S : ArS} {own : Nat → Prop} {w : World} (h : AR base a S own w) (n : Nat) : AR base a S own (w.drewN n) := h.stay (fun _ _ => rfl) (fun _ _ _ => rfl)

/-- How many pages are in use. -/
def ArS.used (S : ArS) : Int := (S.pages.length : Int) - S.free.length
def ArS.left (S : ArS) : Int := if S.quota - S.used < 0 then 0 else S.quota - S.used
/-- What holds of every arena. -/
structure ArS.Ok (S : ArS) : Prop where
  free : ∀ n, n ∈ S.free → 1 ≤ n ∧ n ≤ S.pages.length ∧ S.pages[(n - 1).toNat]? = some none
  nodup : S.free.Nodup
  count : S.free.length = S.pages.countP (·.isNone)
  most : S.pages.length ≤ 4096
  quota : 0 ≤ S.quota ∧ S.quota ≤ 4096
theorem ArS.Ok.le {S : ArS} (h : S.Ok) : S.free.length ≤ S.pages.length := by rw [h.count]; exact List.countP_le_length
theorem ArS.Ok.used {S : ArS} (h : S.Ok) : 0 ≤ S.used ∧ S.used ≤ 4096 := by
  have h1 := h.le
  have h2 := h.most
  unfold ArS.used
  omega

theorem used_any {base a : Nat} {S : ArS} {own : Nat → Prop} {w : World} (h : AR base a S own w) (ok : S.Ok) :
    Calls Try.prog 20 #[.pointer (some ⟨a, 0, none⟩)] w fun e w' => e = .returned (.int .i64 S.used) ∧ ∃ n, w' = w.drewN n := by
  obtain ⟨pv, fv, pbs, rfl, R⟩ := h
  obtain ⟨A, cp, rfl⟩ := own_form R.pown
  obtain ⟨B, cf, rfl⟩ := own_form R.fown
  obtain ⟨q0, q1, q2, _, _, _, hl⟩ := three_of_block R.blk
  have h1 := ok.le
  have h2 := ok.most
  have h3 := R.len
  have hU : Hid (((pbs.length : Int) - S.free.length) = S.used) := (by rw [R.len]; rfl : ((pbs.length : Int) - S.free.length) = S.used)
  have h4 : S.free.length ≤ pbs.length := by omega
  have h5 : pbs.length ≤ 4096 := by omega
  clear h1 h2 h3
  go_enter Try.func20, Try.ntmps20
  go_wp2_with fail
  go_quiet (fail)
  go_wp2_with fail
  go_ret
  exact ⟨by rw [← hU.out]; rfl, _, rfl⟩
theorem used_nil (w : World) : Calls Try.prog 20 #[.pointer none] w fun e w' => e = .returned (.int .i64 0) ∧ w = w' := by
  go_enter Try.func20, Try.ntmps20
  go_wp2
  go_ret
  exact ⟨rfl, rfl⟩
end Go.Proofs.Ytmlgockejacjeaa
