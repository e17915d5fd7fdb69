/-
  Encode, walked.
-/
import Derived.Test.YtnjdmaeoebihpaaPgLay
import Derived.Laws.OwnMore
import Derived.OwnWalk
namespace Go.Proofs.Ytnjdmaeoebihpaa
open Go.RowKit Go.Proofs.YtnjdmaeoebihpaaW.PrintWords Go.Proofs.YtnjdmaeoebihpaaW.PrintLast Go.Proofs.YtnjdmaeoebihpaaW.PrintMore
set_option linter.unusedVariables false
set_option linter.unusedSimpArgs false

/-- Not right but for its size. -/
theorem encode_bad (leaf : Bool) (A : Option Addr) (c : Nat) (l : List ByteArray) (B : Option Addr) (d : Nat) (ks : List Int) (w : World) (hr : RdN w A c l B d ks) (hb : Bd l ks) (hs : ¬ Shp leaf l ks) :
    Calls Try.prog 19 #[.agg #[.bool leaf, .slice A l.length c, .slice B ks.length d]] w fun e w' => e = .returned (.tuple #[.slice none 0 0, .int .i64 15]) ∧ Below w.heap.size w w' := by
  have HR := Lib.hid hr
  clear hr
  have hblk := heap_alloc_new w (NodeObj leaf A l.length c B ks.length d)
  obtain ⟨w1, hw1⟩ : ∃ w1, w1 = w.alloc (.cells #[.bool leaf, .slice A l.length c, .slice B ks.length d] 25) := ⟨_, rfl⟩
  replace hblk : w1.heap[w.heap.size]? = some (NodeObj leaf A l.length c B ks.length d) := by rw [hw1]; exact hblk
  have HB1 : Hid (Below w.heap.size w w1) := (by rw [hw1]; exact (Below.refl _ _).alloc (Nat.le_refl _) _ : Below w.heap.size w w1)
  obtain ⟨n0, n1, n2, f0, f1, f2, nl⟩ := three_of_block hblk
  have HBK := Lib.hid hblk
  clear hblk
  go_enter Try.func19, Try.ntmps19
  go_upto_region 1 with (fail)
  rw [← hw1]
  clear hw1
  go_wp2_with fail
  refine (shaped_any leaf A c l B d ks _ (HR.out.below HB1.out) (Nat.le_trans hb.len (by omega)) (Nat.le_trans hb.kids (by omega))).mono ?_
  rintro e w2 ⟨b, rfl, hsh, hb2⟩
  have HB2 : Hid (Below w.heap.size w w2) := HB1.out.trans (hb2.mono HB1.out.size)
  cases b with
  | true => exact absurd (hsh.1 rfl) hs
  | false =>
    clear hsh hb2 n0 n1 n2 f0 f1 f2 nl hs
    go_wp2_with fail
    go_ret2
    exact ⟨rfl, HB2.out⟩

/-- Right but for its size, and too great. -/
theorem encode_long (leaf : Bool) (A : Option Addr) (c : Nat) (l : List ByteArray) (B : Option Addr) (d : Nat) (ks : List Int) (w : World) (hr : RdN w A c l B d ks) (hb : Bd l ks) (hs : Shp leaf l ks) (hz : ¬ sizeN l ks ≤ 1024) :
    Calls Try.prog 19 #[.agg #[.bool leaf, .slice A l.length c, .slice B ks.length d]] w fun e w' => e = .returned (.tuple #[.slice none 0 0, .int .i64 8]) ∧ Below w.heap.size w w' := by
  have HR := Lib.hid hr
  have HS := Lib.hid hs
  clear hr hs
  have hblk := heap_alloc_new w (NodeObj leaf A l.length c B ks.length d)
  obtain ⟨w1, hw1⟩ : ∃ w1, w1 = w.alloc (.cells #[.bool leaf, .slice A l.length c, .slice B ks.length d] 25) := ⟨_, rfl⟩
  replace hblk : w1.heap[w.heap.size]? = some (NodeObj leaf A l.length c B ks.length d) := by rw [hw1]; exact hblk
  have HB1 : Hid (Below w.heap.size w w1) := (by rw [hw1]; exact (Below.refl _ _).alloc (Nat.le_refl _) _ : Below w.heap.size w w1)
  obtain ⟨n0, n1, n2, f0, f1, f2, nl⟩ := three_of_block hblk
  have HBK := Lib.hid hblk
  clear hblk
  go_enter Try.func19, Try.ntmps19
  go_upto_region 1 with (fail)
  rw [← hw1]
  clear hw1
  go_wp2_with fail
  refine (shaped_any leaf A c l B d ks _ (HR.out.below HB1.out) (Nat.le_trans hb.len (by omega)) (Nat.le_trans hb.kids (by omega))).mono ?_
  rintro e w2 ⟨b, rfl, hsh, hb2⟩
  have HB2 : Hid (Below w.heap.size w w2) := HB1.out.trans (hb2.mono HB1.out.size)
  have HBK2 := Lib.hid ((hb2.block _ nl).trans HBK.out)
  cases b with
  | false => exact absurd (hsh.2 HS.out) (by decide)
  | true =>
    clear hsh hb2 n0 n1 n2 f0 f1 f2 nl
    obtain ⟨n0, n1, n2, f0, f1, f2, nl⟩ := three_of_block HBK2.out
    go_wp2_with fail
    refine (right_any leaf A c l B d ks _ (HR.out.below HB2.out) hb).mono ?_
    rintro e w3 ⟨b, rfl, hsh, hb3⟩
    have HB3 : Hid (Below w.heap.size w w3) := HB2.out.trans (hb3.mono HB2.out.size)
    cases b with
    | true => exact absurd (hsh.1 rfl).2 hz
    | false =>
      clear hsh hb3 n0 n1 n2 f0 f1 f2 nl hz
      go_wp2_with fail
      go_ret2
      exact ⟨rfl, HB3.out⟩

/-! ### A page that is laid -/
theorem wpList_run {P : Program} {ops : Array Oper} {Q : Exit → Act → World → Prop} {a : Act} {w : World} {rest : List Oper} {o : Oper} (hg : o.guard = none) {v : Value} {w' : World}
    (hr : (execOp a.eval o).run P w = .ok (.value v) w') (h : wpList P ops Q rest (a.put o.dst v) w') : wpList P ops Q (o :: rest) a w :=
  wpList_plain hg fun K hK => by
    unfold Oper.wp
    rw [hr]
    exact hK _ _ h
theorem info_B : (Try.prog.info? 5).map (fun i => (i.zero, i.size, i.bytes)) = some (some (.int .u8 0), 1, 1) := by kernel_rfl
theorem und_B : Try.prog.underlying 39 = some (.slice 5) := by kernel_rfl
theorem info_B' : ∃ i, Try.prog.info? 5 = some i ∧ i.zero = some (.int .u8 0) ∧ i.size = 1 ∧ i.bytes = 1 := by
  have h := info_B
  cases hi : Try.prog.info? 5 with
  | none => rw [hi] at h; cases h
  | some i =>
    rw [hi] at h
    simp only [Option.map_some, Option.some.injEq, Prod.mk.injEq] at h
    exact ⟨i, rfl, h.1, h.2.1, h.2.2⟩
def pgTop : Nat := 1024
theorem made_zero (n : Nat) : madeCells #[.int .u8 0] n = lay [] n [] := by
  apply Array.ext
  · rw [size_madeCells, lay_size]; simp
  · intro i h1 h2
    simp [madeCells, lay, bc, Nat.mod_one]
theorem exec_make (ρ : Operand → Value) (o : Oper) (x y : Operand) (ho : o.op = .makeSlice 39 x y) (hx : ρ x = .int .i64 1024) (hy : ρ y = .int .i64 1024) (w : World) :
    (execOp ρ o).run Try.prog w = .ok (.value (.slice (some ⟨w.heap.size, 0, none⟩) 1024 1024)) (w.alloc (.cells (lay [] pgTop []) 5)) := by
  obtain ⟨i, h1, h2, h3, h4⟩ := info_B'
  have h := run_makeSlice (P := Try.prog) w 39 5 i (.int .u8 0) und_B h1 h2 .i64 .i64 1024 1024 (by omega) (by omega) (by rw [h3]; decide) (by rw [h4]; decide) (by decide)
  rw [h3, Nat.mul_one, show (Value.int .u8 0).cells = #[.int .u8 0] from rfl, made_zero] at h
  unfold execOp
  simp only [ho, hx, hy, Sem.run_bind, h, Result.andThen_ok, Sem.run_pure]
  rfl
theorem exec_copyS (ρ : Operand → Value) (o : Oper) (x y : Operand) (ho : o.op = .call { callee := .builtin .copy, args := #[x, y], argTypes := #[39, 9] }) (g off dLen dCap : Nat) (hx : ρ x = .slice (some ⟨g, off, none⟩) dLen dCap) (s : ByteArray) (hy : ρ y = .string s)
    (w : World) (cur : Array Value) (hg : w.heap[g]? = some (.cells cur 5)) (hle : s.size ≤ dLen) (hfit : off + s.size ≤ cur.size) :
    (execOp ρ o).run Try.prog w = .ok (.value (goInt s.size)) (w.setRow g (cur.toList.take off ++ Lib.byteCells s.data.toList ++ cur.toList.drop (off + s.size)).toArray) := by
  obtain ⟨i, h1, h2, h3, h4⟩ := info_B'
  have h := Lib.run_copy_row_string (P := Try.prog) w 39 9 o.type 5 g off dLen dCap s cur 5 und_B (by rw [h1]; simp [h3]) hg hle hfit
  unfold execOp
  simp only [ho, resolve, invoke, builtin, Sem.run_bind, Sem.run_pure, Result.andThen_ok, List.map_toArray, List.map_cons, List.map_nil, hx, hy, h]
theorem two_lay {w : World} {N ob bb : Nat} {H : List UInt8} {z : Nat} {T : List UInt8} (h : Out w ob bb (lay H (z + 2) T) H.length) (hN : N ≤ bb) (hN2 : N ≤ ob) (n : Nat) (hn : n < 65536) :
    Calls Try.prog 31 #[.pointer (some ⟨ob, 0, none⟩), .int .i64 n] w fun e w' => e = .returned (.tuple #[]) ∧ Out w' ob bb (lay (H ++ by2 n) z T) (H ++ by2 n).length ∧ Below N w w' := by
  have hs := h.size
  rw [lay_size] at hs
  refine (two_any h hN hN2 (by omega) n hn).mono fun e w' hp => ?_
  obtain ⟨he, ho, hb⟩ := hp
  rw [put2_lay _ _ _ _ hn] at ho
  refine ⟨he, ?_, hb⟩
  rw [List.length_append, by2_len]
  exact ho
theorem four_lay {w : World} {N ob bb : Nat} {H : List UInt8} {z : Nat} {T : List UInt8} (h : Out w ob bb (lay H (z + 4) T) H.length) (hN : N ≤ bb) (hN2 : N ≤ ob) (n : Nat) (hn : n < 65536) :
    Calls Try.prog 32 #[.pointer (some ⟨ob, 0, none⟩), .int .i64 n] w fun e w' => e = .returned (.tuple #[]) ∧ Out w' ob bb (lay (H ++ (by2 0 ++ by2 n)) z T) (H ++ (by2 0 ++ by2 n)).length ∧ Below N w w' := by
  have hs := h.size
  rw [lay_size] at hs
  refine (four_any h hN hN2 (by omega) n hn).mono fun e w' hp => ?_
  obtain ⟨he, ho, hb⟩ := hp
  rw [put4_lay _ _ _ _ hn] at ho
  refine ⟨he, ?_, hb⟩
  rw [List.length_append, List.length_append, by2_len, by2_len]
  exact ho
end Go.Proofs.Ytnjdmaeoebihpaa
