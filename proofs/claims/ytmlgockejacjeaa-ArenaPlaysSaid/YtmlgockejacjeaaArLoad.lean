/-
  Package arena: Load, Store, Pages.
-/
import Derived.Test.YtmlgockejacjeaaArBase
namespace Go.Proofs.Ytmlgockejacjeaa
open Go.RowKit
set_option linter.unusedVariables false
set_option linter.unusedSimpArgs false

theorem bcells_one (l : List UInt8) : ∀ u ∈ (bcells l).toList, u.oneCell' = true := by
  intro u hu
  simp [bcells] at hu
  obtain ⟨x, _, rfl⟩ := hu
  rfl
theorem bcells_len (l : List UInt8) : (bcells l).toList.length = l.length := by simp [bcells]
theorem bcells_size (l : List UInt8) : (bcells l).size = l.length := by simp [bcells]

theorem load_in {base a : Nat} {S : ArS} {own : Nat → Prop} {w : World} (h : AR base a S own w) (ok : S.Ok) (n : Int) {l : List UInt8} (hp : S.page n = some l) :
    Calls Try.prog 13 #[.pointer (some ⟨a, 0, none⟩), .int .i64 n] w fun e w' => ∃ g c, e = .returned (.tuple #[.slice (some ⟨g, 0, none⟩) 1024 c, .int .i64 0]) ∧ w'.ownsRow w.heap.size 5 1 (.slice (some ⟨g, 0, none⟩) 1024 c) 1024 (bcells l).toList ∧ Below w.heap.size w w' ∧ l.length = 1024 := by
  have HI := Lib.hid (is_in h ok n hp)
  obtain ⟨pv, fv, pbs, rfl, R⟩ := h
  obtain ⟨h1, h2, b, g, cap, e1, rfl, hgb, e2, fz, hlen1, hpage, e3⟩ := R.in_ hp
  obtain ⟨q0, q1, q2, f0, f1, f2, hl⟩ := three_of_block R.blk
  have hlen : pbs.length ≤ 4096 := by rw [R.len]; exact ok.most
  clear e1 hp
  obtain ⟨m, rfl⟩ : ∃ m : Nat, n = (m : Int) + 1 := ⟨(n - 1).toNat, by omega⟩
  have hm : ((m : Int) + 1 - 1).toNat = m := by omega
  rw [hm] at e2 fz
  have hm' : m < pbs.length := by omega
  have hbl := lt_of_block hpage
  have hbc : (bcells l).toList.length = 1024 := by rw [bcells_len, hlen1]
  have hclone := cloneB_any b 0 1024 (bcells l).toList w (fun j u hj => by rw [Nat.zero_add, cell_of_block hpage]; simpa using hj) (bcells_one l) (by omega) (.inr hbl)
  rw [hbc] at hclone
  have HC := Lib.hid hclone; clear hclone hbc
  have HL := Lib.hid hlen1; clear hlen1
  have HPG := Lib.hid hpage; clear hpage
  have HR := Lib.hid R; clear R
  go_enter Try.func13, Try.ntmps13
  go_wp2_with fail
  refine HI.out.mono ?_
  rintro e w1 ⟨rfl, rfl⟩
  go_wp2_with fail
  refine HC.out.mono ?_
  rintro e w1 ⟨v, rfl, hown, hb, gv, c, rfl⟩
  have HO := Lib.hid hown; clear hown
  have HB := Lib.hid hb; clear hb
  go_wp2_with fail
  go_ret2
  exact ⟨gv, c, rfl, HO.out, HB.out, HL.out⟩

theorem exec_arrayPtr (ρ : Operand → Value) (o : Oper) (x : Operand) (b c : Nat) (ho : o.op = .sliceToArrayPointer 69 x) (hx : ρ x = .slice (some ⟨b, 0, none⟩) 1024 c) (w : World) :
    (execOp ρ o).run Try.prog w = .ok (.value (.pointer (some ⟨b, 0, none⟩))) w := by
  have h : (Instr.arrayAt 69 (.slice (some ⟨b, 0, none⟩) 1024 c)).run Try.prog w = .ok (.pointer (some ⟨b, 0, none⟩)) w := by kernel_rfl
  unfold execOp
  simp only [ho, hx, Sem.run_bind, h, Result.andThen_ok, Sem.run_pure]

theorem page_size : (Try.prog.info? 69).map (·.size) = some 1024 := by kernel_rfl
theorem exec_load_page (ρ : Operand → Value) (o : Oper) (x : Operand) (b : Nat) (cs : Array Value) (t : TypeId) (ho : o.op = .load 69 x) (hx : ρ x = .pointer (some ⟨b, 0, none⟩)) (w : World) (hb : w.heap[b]? = some (.cells cs t)) (hs : cs.size = 1024) :
    (execOp ρ o).run Try.prog w = .ok (.value (.agg cs)) w := by
  have h := run_loadVar_row (P := Try.prog) w b t 69 cs (0, 0) _ hb Try.underlying69 rfl (by rw [page_size, hs])
  unfold execOp
  simp only [ho, hx, Instr.loadAt, Instr.sureAddr, Sem.run_bind, Sem.run_pure, h, Result.andThen_ok]
theorem zero_page (w : World) : (zeroValue 69).run Try.prog w = .ok (.agg Zp) w := by kernel_rfl
theorem exec_alloc_page (ρ : Operand → Value) (o : Oper) (ho : o.op = .alloc 69) (w : World) :
    (execOp ρ o).run Try.prog w = .ok (.value (.pointer (some ⟨w.heap.size, 0, none⟩))) (w.alloc (.cells Zp 69)) := by
  unfold execOp
  simp only [ho, Instr.alloc, Sem.run_bind, zero_page, Result.andThen_ok]
  simp [newVar, newRow, Value.cells]
theorem setRow_new (w : World) (c c' : Array Value) (t : TypeId) : (w.alloc (.cells c t)).setRow w.heap.size c' = w.alloc (.cells c' t) := by
  unfold World.setRow World.alloc
  congr 1
  apply Array.ext_getElem?
  intro k
  simp only [Array.getElem?_modify, Array.getElem?_push]
  by_cases e : w.heap.size = k
  · subst e; simp
  · simp [e, Ne.symm e]
theorem exec_store_page (ρ : Operand → Value) (o : Oper) (x y : Operand) (cs : Array Value) (ho : o.op = .store 69 x y) (w : World) (hx : ρ x = .pointer (some ⟨w.heap.size, 0, none⟩)) (hy : ρ y = .agg cs) (hs : cs.size = 1024) (h1 : cs.all (·.oneCell') = true) :
    (execOp ρ o).run Try.prog (w.alloc (.cells Zp 69)) = .ok .skip (w.alloc (.cells cs 69)) := by
  have h := run_storeVar_row (P := Try.prog) (w.alloc (.cells Zp 69)) w.heap.size 69 69 Zp cs (heap_alloc_new _ _) (by rw [page_size, hs]) (by rw [Zp_size, hs]) h1
  rw [setRow_new] at h
  unfold execOp
  simp only [ho, hx, hy, Instr.storeAt, Instr.sureAddr, Sem.run_bind, Sem.run_pure, h, Result.andThen_ok]

/-- A page's bytes are laid. -/
def ArS.put (S : ArS) (n : Int) (l : List UInt8) : ArS := { S with pages := S.pages.set (n - 1).toNat (some l) }
theorem store_in {base a : Nat} {S : ArS} {own : Nat → Prop} {w : World} (h : AR base a S own w) (ok : S.Ok) (n : Int) {l : List UInt8} (hp : S.page n = some l) (b c : Nat) (l' : List UInt8) (hl' : l'.length = 1024) (t : TypeId) (hb : w.heap[b]? = some (.cells (bcells l') t)) :
    Calls Try.prog 12 #[.pointer (some ⟨a, 0, none⟩), .int .i64 n, .slice (some ⟨b, 0, none⟩) 1024 c] w fun e w' => e = .returned (.int .i64 0) ∧ ∃ own', AR base a (S.put n l') own' w' ∧ Grows own own' w w' := by
  have HI := Lib.hid (is_in h ok n hp)
  obtain ⟨pv, fv, pbs, rfl, R⟩ := h
  obtain ⟨h1, h2, bb, g, cap, e1, rfl, hgb, e2, fz, hlen1, hpage, e3⟩ := R.in_ hp
  obtain ⟨q0, q1, q2, f0, f1, f2, hl⟩ := three_of_block R.blk
  have hlen : pbs.length ≤ 4096 := by rw [R.len]; exact ok.most
  clear e1 hp hpage hlen1
  obtain ⟨m, rfl⟩ : ∃ m : Nat, n = (m : Int) + 1 := ⟨(n - 1).toNat, by omega⟩
  have hm : ((m : Int) + 1 - 1).toNat = m := by omega
  rw [hm] at e2 fz
  have hm' : m < pbs.length := by omega
  have HR := Lib.hid R; clear R
  have HB := Lib.hid hb; clear hb
  have HSZ : Hid ((bcells l').size = 1024) := (by rw [bcells_size, hl'] : (bcells l').size = 1024)
  have HON : Hid ((bcells l').all (·.oneCell') = true) := (Array.all_eq_true_iff_forall_mem.2 fun x hx => bcells_one l' x (by simpa using hx) : (bcells l').all (·.oneCell') = true)
  have HL := Lib.hid hl'; clear hl'
  go_enter Try.func12, Try.ntmps12
  go_wp2_with fail
  refine HI.out.mono ?_
  rintro e w1 ⟨rfl, rfl⟩
  go_wp2_with (first
    | (refine wpList_run rfl (exec_load_page _ _ _ b (bcells l') t rfl rfl _ HB.out HSZ.out) ?_)
    | (refine wpList_run rfl (exec_alloc_page _ _ rfl _) ?_)
    | (refine wpList_skipped rfl (exec_store_page _ _ _ _ (bcells l') rfl w rfl rfl HSZ.out HON.out) ?_)
    | (refine wpList_run rfl (exec_arrayPtr _ _ _ b c rfl rfl _) ?_))
  go_ret
  obtain ⟨R3, G3⟩ := (HR.out.alloc (.cells (bcells l') 69)).stored hm' (some w.heap.size) (some l') ⟨HL.out, heap_alloc_new _ _⟩
  rw [← World.setCell_alloc_past _ _ _ _ e3]
  have hS : S.put ((m : Int) + 1) l' = { S with pages := S.pages.set m (some l') } := by unfold ArS.put; rw [hm]
  rw [hS]
  exact ⟨rfl, _, ⟨_, _, _, rfl, R3⟩, Grows.before (Chg.alloc (Chg.refl _ _) _) G3⟩

/-- The first i numbers that are in use. -/
def ArS.upto (S : ArS) (i : Nat) : List Int := ((List.range i).filter fun (j : Nat) => (S.page ((j : Int) + 1)).isSome).map fun (j : Nat) => (j : Int) + 1
theorem upto_zero (S : ArS) : S.upto 0 = [] := rfl
theorem upto_in {S : ArS} {i : Nat} (h : (S.page ((i : Int) + 1)).isSome = true) : S.upto (i + 1) = S.upto i ++ [(i : Int) + 1] := by
  unfold ArS.upto
  rw [List.range_succ, List.filter_append, List.map_append]
  simp [h]
theorem upto_out {S : ArS} {i : Nat} (h : S.page ((i : Int) + 1) = none) : S.upto (i + 1) = S.upto i := by
  unfold ArS.upto
  rw [List.range_succ, List.filter_append, List.map_append]
  simp [h]
theorem upto_len (S : ArS) (i : Nat) : (S.upto i).length ≤ i := by
  unfold ArS.upto
  rw [List.length_map]
  exact Nat.le_trans (List.length_filter_le _ _) (by simp)

def PagesRel (S : ArS) (w : World) (i : Nat) (v : Value) (wr : World) : Prop := wr.ownsRow w.heap.size 3 1 v (S.upto i).length ((S.upto i).map (Value.int .i64)) ∧ Below w.heap.size w wr

theorem pages_any {base a : Nat} {S : ArS} {own : Nat → Prop} {w : World} (h : AR base a S own w) (ok : S.Ok) :
    Calls Try.prog 23 #[.pointer (some ⟨a, 0, none⟩)] w fun e w' => ∃ v, e = .returned v ∧ PagesRel S w S.pages.length v w' := by
  obtain ⟨pv, fv, pbs, rfl, R⟩ := h
  obtain ⟨q0, q1, q2, f0, f1, f2, hl⟩ := three_of_block R.blk
  have hlen : pbs.length ≤ 4096 := by rw [R.len]; exact ok.most
  obtain ⟨A, cp, rfl⟩ := own_form R.pown
  have hpl : Hid (pbs.length = S.pages.length) := R.len
  obtain ⟨i0, hi, hz0, hz1, hz2⟩ := info_parts info_I
  have HR := Lib.hid R; clear R
  go_enter Try.func23, Try.ntmps23
  go_wp2_with fail
  go_loopw [3, 14] (fun out i wr => ∃ j : Nat, j ≤ pbs.length ∧ i = .int .i64 j ∧ PagesRel S w j out wr) (fun _ i _ => pbs.length - (intOf i).toNat)
  case atStart => exact ⟨0, Nat.zero_le _, rfl, World.ownsRow_nil _ _ _ _, Below.refl _ _⟩
  case round =>
    obtain ⟨j, hj, rfl, hrel⟩ := hrel
    have HREL := Lib.hid hrel; clear hrel
    by_cases hlt : j < pbs.length
    · have hRr : ARep base a S (.slice A pbs.length cp) fv pbs wr := HR.out.stay fun k hk => HREL.out.2.block k hk
      rcases hp : S.page ((j : Int) + 1) with _ | l
      · obtain ⟨g, cap, hA, hc, hg⟩ := hRr.out_ hp (by omega) (by omega)
        rw [show ((j : Int) + 1 - 1).toNat = j from by omega] at hc
        injection hA with hA _ _
        subst hA
        have HP := Lib.hid hp; clear hp
        have HRR := Lib.hid hRr; clear hRr
        go_wp2_with fail
        go_roundw
        case rel => exact ⟨j + 1, by omega, by go_num, by unfold PagesRel; rw [upto_out HP.out]; exact HREL.out⟩
        case measure => simp [intOf]; omega
      · obtain ⟨_, _, b, g, cap, _, hA, _, hc, _, _, _, hg⟩ := hRr.in_ hp
        rw [show ((j : Int) + 1 - 1).toNat = j from by omega] at hc
        injection hA with hA _ _
        subst hA
        have HP := Lib.hid hp; clear hp
        have HRR := Lib.hid hRr; clear hRr
        obtain ⟨B, cb, rfl⟩ := own_form HREL.out.1
        have hsz := HREL.out.2.size
        have hul := upto_len S j
        have HOWN := Lib.hid (HREL.out.1.alloc (.cells #[.int .i64 ((j : Int) + 1)] 3))
        have C1 := Lib.hid (cell_one_new wr (.int .i64 ((j : Int) + 1)) 3)
        have C2 : Hid (∀ u ∈ [Value.int .i64 ((j : Int) + 1)], u.oneCell' = true) := (by simp [Value.oneCell'] : ∀ u ∈ [Value.int .i64 ((j : Int) + 1)], u.oneCell' = true)
        have C3 : Hid ((S.upto j).length + 1 ≤ maxLen) := (by simp only [maxLen]; omega : (S.upto j).length + 1 ≤ maxLen)
        have C4 : Hid (((S.upto j).length + 1) * 8 ≤ 140737488355328) := (by omega : ((S.upto j).length + 1) * 8 ≤ 140737488355328)
        go_wp2_with (at_builtin; refine wpList_append_own _ rfl _ _ 48 rfl w.heap.size 3 i0 (.int .i64 0) 1 8 Try.underlying48 hi hz0 hz1 hz2 rfl (by decide) _ _ _ rfl HOWN.out ⟨wr.heap.size, 0, none⟩ 1 1 [.int .i64 ((j : Int) + 1)] rfl rfl C1.out C2.out C3.out C4.out (by simp; omega) ?_; intro v' w2 hown' hgrow hnil; obtain ⟨A', c', rfl⟩ := own_form hown'; have HG : Hid (World.grownBy _ w2 (Value.ownBlock (.slice B (S.upto j).length cb))) := hgrow; have HO := Lib.hid hown'; clear hown' hgrow hnil)
        go_roundw
        case rel =>
          refine ⟨_, _, _, _, ⟨j + 1, by omega, ?_, ?_, ?_⟩, rfl, rfl, rfl, rfl⟩
          · go_num
          · rw [upto_in (by rw [HP.out]; rfl)]
            simpa using HO.out
          · exact (HREL.out.2.alloc hsz _).grown HG.out (by simp; omega) (fun k hk => (HREL.out.1.lt k hk).1)
        case measure => simp [intOf]; omega
    · go_wp2_with fail
      go_ret
      obtain rfl : j = pbs.length := by omega
      rw [← hpl.out]
      exact ⟨_, rfl, HREL.out⟩
end Go.Proofs.Ytmlgockejacjeaa
