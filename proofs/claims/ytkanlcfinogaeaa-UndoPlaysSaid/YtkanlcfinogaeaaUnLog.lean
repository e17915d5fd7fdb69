/-
  Package undo: a log in memory; New, Len, Add, Save, Saves.
-/
import Derived.Test.YtkanlcfinogaeaaUn
namespace Go.Proofs.Ytkanlcfinogaeaa
open Go.RowKit
set_option linter.unusedVariables false
set_option linter.unusedSimpArgs false

/-- An entry, and where its values lie. -/
structure Img where
  e : Ent
  oa : Option Addr
  oc : Nat
  na : Option Addr
  nc : Nat
def Img.ov (x : Img) : Value := .slice x.oa x.e.old.length x.oc
def Img.nv (x : Img) : Value := .slice x.na x.e.new.length x.nc
def Img.cells (x : Img) : List Value := [.int .i64 x.e.kind, .int .i64 x.e.id, .string x.e.table, .slice x.oa x.e.old.length x.oc, .slice x.na x.e.new.length x.nc]
def icells (l : List Img) : List Value := l.flatMap Img.cells
theorem icells_len (l : List Img) : (icells l).length = l.length * 5 := by
  induction l with
  | nil => rfl
  | cons a t ih => simp [icells, Img.cells] at ih ⊢; omega
theorem icells_cons (p : Img) (t : List Img) : icells (p :: t) = .int .i64 p.e.kind :: .int .i64 p.e.id :: .string p.e.table :: .slice p.oa p.e.old.length p.oc :: .slice p.na p.e.new.length p.nc :: icells t := rfl
theorem icells_append (a b : List Img) : icells (a ++ b) = icells a ++ icells b := by simp [icells]
theorem icells_at : ∀ (L : List Img) (i : Nat) (p : Img), L[i]? = some p → (icells L)[i * 5]? = some (.int .i64 p.e.kind) ∧ (icells L)[i * 5 + 1]? = some (.int .i64 p.e.id) ∧ (icells L)[i * 5 + 2]? = some (.string p.e.table) ∧ (icells L)[i * 5 + 3]? = some (.slice p.oa p.e.old.length p.oc) ∧ (icells L)[i * 5 + 4]? = some (.slice p.na p.e.new.length p.nc)
  | [], i, p, h => by simp at h
  | q :: t, 0, p, h => by
    simp at h; subst h
    exact ⟨rfl, rfl, rfl, rfl, rfl⟩
  | q :: t, i + 1, p, h => by
    simp at h
    have ih := icells_at t i p h
    rw [icells_cons, show (i + 1) * 5 = i * 5 + 1 + 1 + 1 + 1 + 1 from by omega]
    exact ih
theorem icells_one (L : List Img) : ∀ u ∈ icells L, u.oneCell' = true := by
  intro u hu
  simp [icells, Img.cells] at hu
  obtain ⟨a, _, h⟩ := hu
  rcases h with rfl | rfl | rfl | rfl | rfl <;> rfl
def scells (l : List (ByteArray × Int)) : List Value := l.flatMap fun p => [.string p.1, .int .i64 p.2]
theorem scells_len (l : List (ByteArray × Int)) : (scells l).length = l.length * 2 := by
  induction l with
  | nil => rfl
  | cons a t ih => simp [scells] at ih ⊢; omega
theorem scells_cons (p : ByteArray × Int) (t : List (ByteArray × Int)) : scells (p :: t) = .string p.1 :: .int .i64 p.2 :: scells t := rfl
theorem scells_append (a b : List (ByteArray × Int)) : scells (a ++ b) = scells a ++ scells b := by simp [scells]
theorem scells_at : ∀ (L : List (ByteArray × Int)) (i : Nat) (p : ByteArray × Int), L[i]? = some p → (scells L)[i * 2]? = some (.string p.1) ∧ (scells L)[i * 2 + 1]? = some (.int .i64 p.2)
  | [], i, p, h => by simp at h
  | q :: t, 0, p, h => by
    simp at h; subst h
    exact ⟨rfl, rfl⟩
  | q :: t, i + 1, p, h => by
    simp at h
    have ih := scells_at t i p h
    rw [scells_cons, show (i + 1) * 2 = i * 2 + 1 + 1 from by omega]
    exact ih
theorem scells_one (L : List (ByteArray × Int)) : ∀ u ∈ scells L, u.oneCell' = true := by
  intro u hu
  simp [scells] at hu
  obtain ⟨a, b, _, h⟩ := hu
  rcases h with rfl | rfl <;> rfl

/-- Both of an entry's lists read. -/
def Img.Rd (base : Nat) (w : World) (x : Img) : Prop := RdV base w x.ov x.e.old ∧ RdV base w x.nv x.e.new
theorem Img.Rd.frm {T : TypeId → Prop} {base base' : Nat} {w w' : World} {x : Img} (h : x.Rd base w) (hf : Frm T base' w w') (ht : ¬ T 42) (hb : base ≤ base') : x.Rd base w' := ⟨h.1.frm hf ht hb, h.2.frm hf ht hb⟩

/-- A log: entries, savepoints with how many entries there were, the quota. -/
structure ULS where
  entries : List Ent
  saves : List (ByteArray × Int)
  quota : Int
structure URep (base l : Nat) (S : ULS) (I : List Img) (ev sv : Value) (w : World) : Prop where
  lo : base ≤ l
  blk : w.heap[l]? = some (.cells #[.int .i64 S.quota, ev, sv] 64)
  eown : w.ownsRow base 35 5 ev I.length (icells I)
  ent : I.map Img.e = S.entries
  rd : ∀ x ∈ I, x.Rd base w
  sown : w.ownsRow base 69 2 sv S.saves.length (scells S.saves)
def UR (base l : Nat) (S : ULS) (w : World) : Prop := ∃ I ev sv, URep base l S I ev sv w
/-- The types of which a log's methods write blocks. -/
def TU (t : TypeId) : Prop := t = 64 ∨ t = 35 ∨ t = 69
theorem URep.frm {T : TypeId → Prop} {base base' l : Nat} {S : ULS} {I : List Img} {ev sv : Value} {w w' : World} (h : URep base l S I ev sv w) (hf : Frm T base' w w') (hb : base ≤ base') (h1 : ¬ T 64) (h2 : ¬ T 35) (h3 : ¬ T 69) (h4 : ¬ T 42) : URep base l S I ev sv w' :=
  ⟨h.lo, hf.blk h.blk h1, hf.owns h.eown h2, h.ent, fun x hx => (h.rd x hx).frm hf h4 hb, hf.owns h.sown h3⟩
theorem UR.frm {T : TypeId → Prop} {base base' l : Nat} {S : ULS} {w w' : World} (h : UR base l S w) (hf : Frm T base' w w') (hb : base ≤ base') (h1 : ¬ T 64) (h2 : ¬ T 35) (h3 : ¬ T 69) (h4 : ¬ T 42) : UR base l S w' := by
  obtain ⟨I, ev, sv, h⟩ := h
  exact ⟨I, ev, sv, h.frm hf hb h1 h2 h3 h4⟩
def TN (t : TypeId) : Prop := False
theorem UR.below {base l : Nat} {S : ULS} {w w' : World} (h : UR base l S w) (hb : Below w.heap.size w w') (hle : base ≤ w.heap.size) : UR base l S w' :=
  h.frm (T := TN) (Frm.ofBelow hb (Nat.le_refl _)) hle (fun h => h) (fun h => h) (fun h => h) (fun h => h)
theorem UR.le {base l : Nat} {S : ULS} {w : World} (h : UR base l S w) : base ≤ w.heap.size := by
  obtain ⟨I, ev, sv, h⟩ := h
  have := h.lo
  have := lt_of_block h.blk
  omega

theorem new_any (q : Int) (h0 : 0 ≤ q) (h1 : q ≤ 100000) (w : World) :
    Calls Try.prog 7 #[.int .i64 q] w fun e w' => e = .returned (.tuple #[.pointer (some ⟨w.heap.size, 0, none⟩), .int .i64 0]) ∧ Below w.heap.size w w' ∧ UR w.heap.size w.heap.size ⟨[], [], q⟩ w' := by
  go_enter Try.func7, Try.ntmps7
  go_wp2_with fail
  go_ret2
  exact ⟨rfl, (Below.refl _ _).alloc (Nat.le_refl _) _, [], _, _, Nat.le_refl _, heap_alloc_new _ _, World.ownsRow_nil _ _ _ _, rfl, (fun x hx => by cases hx), World.ownsRow_nil _ _ _ _⟩
theorem new_bad (q : Int) (hq : (Lit.int .i64 q).wf = true) (hb : ¬ (0 ≤ q ∧ q ≤ 100000)) (w : World) :
    Calls Try.prog 7 #[.int .i64 q] w fun e w' => e = .returned (.tuple #[.pointer none, .int .i64 15]) ∧ w = w' := by
  go_enter Try.func7, Try.ntmps7
  go_wp2_with fail
  all_goals
    first
      | (exfalso; omega)
      | (go_ret2; exact ⟨rfl, rfl⟩)
theorem len_nil (w : World) : Calls Try.prog 19 #[.pointer none] w fun e w' => e = .returned (.int .i64 0) ∧ w = w' := by
  go_enter Try.func19, Try.ntmps19
  go_wp2_with fail
  go_ret
  exact ⟨rfl, rfl⟩
theorem len_any {base l : Nat} {S : ULS} {w : World} (h : UR base l S w) :
    Calls Try.prog 19 #[.pointer (some ⟨l, 0, none⟩)] w fun e w' => e = .returned (.int .i64 (S.entries.length : Int)) ∧ w = w' := by
  obtain ⟨I, ev, sv, R⟩ := h
  have hl : Hid (I.length = S.entries.length) := (by rw [← R.ent]; simp : I.length = S.entries.length)
  obtain ⟨A, c, rfl⟩ := own_form R.eown
  obtain ⟨q0, q1, q2, _, _, _, hlt⟩ := three_of_block R.blk
  clear R
  go_enter Try.func19, Try.ntmps19
  go_wp2_with fail
  go_ret
  exact ⟨by rw [hl.out]; rfl, rfl⟩
theorem saves_nil (w : World) : Calls Try.prog 22 #[.pointer none] w fun e w' => e = .returned (.slice none 0 0) ∧ w = w' := by
  go_enter Try.func22, Try.ntmps22
  go_wp2_with fail
  go_ret
  exact ⟨rfl, rfl⟩
theorem save_nil (s : ByteArray) (w : World) : Calls Try.prog 11 #[.pointer none, .string s] w fun e w' => e = .returned (.tuple #[]) ∧ w = w' := by
  go_enter Try.func11, Try.ntmps11
  go_wp2_with fail
  go_end0
  exact ⟨rfl, rfl⟩
theorem back_nil (s : ByteArray) (w : World) : Calls Try.prog 13 #[.pointer none, .string s] w fun e w' => e = .returned (.tuple #[.slice none 0 0, .int .i64 15]) ∧ w = w' := by
  go_enter Try.func13, Try.ntmps13
  go_wp2_with fail
  go_ret2
  exact ⟨rfl, rfl⟩
theorem add_nil (a b : Int) (s : ByteArray) (A B : Option Addr) (n m c d : Nat) (w : World) : Calls Try.prog 9 #[.pointer none, .agg #[.int .i64 a, .int .i64 b, .string s, .slice A n c, .slice B m d]] w fun e w' => e = .returned (.int .i64 15) ∧ Below w.heap.size w w' := by
  go_enter Try.func9, Try.ntmps9
  go_wp2_with fail
  go_ret
  exact ⟨rfl, (Below.refl _ _).alloc (Nat.le_refl _) _⟩
end Go.Proofs.Ytkanlcfinogaeaa
