/-
  Package arena: what its operations keep, with no program in sight; and slices of bytes that came in.
-/
import Derived.Test.YtmlgockejacjeaaArLoad
import Derived.Test.YtmlgockejacjeaaArAwake
import Derived.ProofKit
import Derived.ChangeSame
namespace Go.Proofs.Ytmlgockejacjeaa
open Go.RowKit Go.ChangeShapes Go.WideShapes Go.ChangeAt
set_option linter.unusedVariables false
set_option linter.unusedSimpArgs false

theorem set_set_ne {α : Type} {l : List α} {i j : Nat} {x : α} (h : i ≠ j) : (l.set i x)[j]? = l[j]? := List.getElem?_set_ne h
theorem countP_turn {α : Type} (p : α → Bool) (l : List α) (i : Nat) (x y : α) (h : l[i]? = some x) : (l.set i y).countP p + (if p x then 1 else 0) = l.countP p + (if p y then 1 else 0) := by
  induction l generalizing i with
  | nil => simp at h
  | cons z t ih =>
    cases i with
    | zero =>
      simp at h
      subst h
      simp only [List.set_cons_zero, List.countP_cons]
      omega
    | succ i =>
      simp at h
      have := ih i h
      simp only [List.set_cons_succ, List.countP_cons]
      omega

theorem ArS.Ok.put {S : ArS} (ok : S.Ok) {n : Int} {l : List UInt8} (hp : S.page n = some l) (l' : List UInt8) : (S.put n l').Ok := by
  obtain ⟨h1, h2⟩ := page_some hp
  have hc := countP_turn (·.isNone) S.pages (n - 1).toNat (some l) (some l') h2
  simp only [Option.isNone_some, Option.isNone_none, if_true, if_false, Bool.false_eq_true, Nat.add_zero] at hc
  refine ⟨fun m hm => ?_, ok.nodup, by show S.free.length = _; rw [ok.count]; exact hc.symm, by simp [ArS.put]; exact ok.most, ok.quota⟩
  obtain ⟨a1, a2, a3⟩ := ok.free m hm
  refine ⟨a1, by simpa [ArS.put] using a2, ?_⟩
  by_cases e : (n - 1).toNat = (m - 1).toNat
  · rw [← e, h2] at a3; cases a3
  · exact (set_set_ne e).trans a3
theorem ArS.Ok.drop {S : ArS} (ok : S.Ok) {n : Int} {l : List UInt8} (hp : S.page n = some l) : (S.drop n).Ok := by
  obtain ⟨h1, h2⟩ := page_some hp
  have hlt := (List.getElem?_eq_some_iff.1 h2).1
  have hc := countP_turn (·.isNone) S.pages (n - 1).toNat (some l) none h2
  simp only [Option.isNone_some, Option.isNone_none, if_true, if_false, Bool.false_eq_true, Nat.add_zero] at hc
  have hnot : n ∉ S.free := fun hm => by
    have := (ok.free n hm).2.2
    rw [h2] at this; cases this
  refine ⟨fun m hm => ?_, ?_, ?_, by simp [ArS.drop]; exact ok.most, ok.quota⟩
  · have hm' : m ∈ S.free ∨ m = n := by simpa [ArS.drop] using hm
    rcases hm' with hm' | rfl
    · obtain ⟨a1, a2, a3⟩ := ok.free m hm'
      refine ⟨a1, by simpa [ArS.drop] using a2, ?_⟩
      by_cases e : (n - 1).toNat = (m - 1).toNat
      · show (S.pages.set (n - 1).toNat none)[(m - 1).toNat]? = _
        rw [← e, List.getElem?_set_self hlt]
      · exact (set_set_ne e).trans a3
    · refine ⟨h1, by simp [ArS.drop]; omega, ?_⟩
      show (S.pages.set (m - 1).toNat none)[(m - 1).toNat]? = _
      rw [List.getElem?_set_self hlt]
  · show (S.free ++ [n]).Nodup
    rw [List.nodup_append]
    refine ⟨ok.nodup, by simp, ?_⟩
    intro a ha b hb e
    simp at hb
    subst hb; subst e
    exact hnot ha
  · show (S.free ++ [n]).length = (S.pages.set (n - 1).toNat none).countP _
    rw [hc, ← ok.count]; simp
theorem ArS.Ok.new {S : ArS} (ok : S.Ok) (hl : S.left ≠ 0) (hf : S.free = []) (l : List UInt8) : ArS.Ok { S with pages := S.pages ++ [some l] } := by
  have hq := ok.quota
  have hu : S.used < S.quota := by
    unfold ArS.left at hl
    split at hl
    · exact absurd rfl hl
    · omega
  unfold ArS.used at hu
  have hc := ok.count
  rw [hf] at hu hc
  refine ⟨fun m hm => ?_, ok.nodup, ?_, ?_, hq⟩
  · exfalso; have hm' : m ∈ S.free := hm; rw [hf] at hm'; cases hm'
  · show S.free.length = (S.pages ++ [some l]).countP _
    rw [List.countP_append, ← hc, hf]; rfl
  · show (S.pages ++ [some l]).length ≤ 4096
    simp at hu ⊢; omega
theorem ArS.Ok.again {S : ArS} (ok : S.Ok) {fr : List Int} {n : Int} (hf : S.free = fr ++ [n]) (l : List UInt8) : ArS.Ok { S with pages := S.pages.set (n - 1).toNat (some l), free := fr } := by
  obtain ⟨b1, b2, b3⟩ := ok.free n (by rw [hf]; simp)
  have hc := countP_turn (·.isNone) S.pages (n - 1).toNat none (some l) b3
  simp only [Option.isNone_some, Option.isNone_none, if_true, if_false, Bool.false_eq_true, Nat.add_zero] at hc
  have hnd := ok.nodup
  rw [hf, List.nodup_append] at hnd
  refine ⟨fun m hm => ?_, hnd.1, ?_, by simp; exact ok.most, ok.quota⟩
  · have hm' : m ∈ fr := hm
    obtain ⟨a1, a2, a3⟩ := ok.free m (by rw [hf]; simp [hm'])
    refine ⟨a1, by simpa using a2, ?_⟩
    by_cases e : (n - 1).toNat = (m - 1).toNat
    · exfalso
      exact hnd.2.2 m hm' n (by simp) (by omega)
    · exact (set_set_ne e).trans a3
  · have h1 := ok.count
    rw [hf] at h1
    simp at h1
    show fr.length = (S.pages.set (n - 1).toNat (some l)).countP _
    omega

/-- How many numbers are in use. -/
theorem upto_count (S : ArS) : ∀ i, i ≤ S.pages.length → (S.upto i).length + (S.pages.take i).countP (·.isNone) = i := by
  intro i
  induction i with
  | zero => intro _; simp [upto_zero]
  | succ i ih =>
    intro hi
    have h0 := ih (by omega)
    rw [List.take_add_one, List.countP_append]
    have hg : S.pages[i]? = some S.pages[i] := List.getElem?_eq_getElem (by omega)
    have hp : S.page ((i : Int) + 1) = S.pages[i] := by
      unfold ArS.page
      rw [if_pos (by omega), show ((i : Int) + 1 - 1).toNat = i from by omega, hg]
      rfl
    rw [hg]
    rcases hx : S.pages[i] with _ | l
    · rw [upto_out (by rw [hp, hx])]
      simp; omega
    · rw [upto_in (by rw [hp, hx]; rfl)]
      simp; omega
theorem upto_used {S : ArS} (ok : S.Ok) : ((S.upto S.pages.length).length : Int) = S.used := by
  have h := upto_count S S.pages.length (Nat.le_refl _)
  rw [List.take_length, ← ok.count] at h
  unfold ArS.used
  omega

/-- How a slice of bytes reads. -/
def ReadsB (w : World) (A : Option Addr) (n : Nat) (f : Nat → UInt8) : Prop := ∀ i, i < n → ∃ b off, A = some ⟨b, off, none⟩ ∧ b < w.heap.size ∧ w.cell? ⟨b, off + i, none⟩ = some (.int .u8 ((f i).toNat : Int))
theorem ReadsB.below {w w' : World} {A : Option Addr} {n : Nat} {f : Nat → UInt8} (h : ReadsB w A n f) {k : Nat} (hb : Below k w w') (hk : w.heap.size ≤ k) : ReadsB w' A n f := by
  intro i hi
  obtain ⟨b, off, rfl, hl, hc⟩ := h i hi
  have h1 := hb.block b (by omega)
  have h2 := hb.size
  exact ⟨b, off, rfl, by omega, (World.cell?_of_block (w := w) (a := ⟨b, off + i, none⟩) h1).trans hc⟩

theorem open_bytes {H : Type} {enc : TypeId × Value → H} {sp : Nat → Bool} {hd : Bool} {d : DataW H} {p : List MemPlace} {base : Nat} (v : Value) (w : World) (hv : Value.okWide Try.prog w .any base 29 v)
    (h : DataW.Trod enc Try.prog w 0 sp hd 29 v d p) : ∃ A len cap f, v = .slice A len cap ∧ ReadsB w A len f ∧ len ≤ maxLen := by
  obtain ⟨a, len, cap, rfl⟩ := okWide_slice Try.underlying29 hv
  obtain ⟨fuel, hf⟩ := h
  rcases open_ints Try.underlying29 Try.underlying5 (by kernel_rfl) hf with ⟨hcs, _⟩ | ⟨x, l, c, zs, hcs, _, hl, hm, hz, _, hcell, hwz⟩
  · simp [Value.cells] at hcs
    obtain ⟨rfl, rfl, rfl⟩ := hcs
    exact ⟨none, 0, 0, fun _ => 0, rfl, fun i hi => by omega, by simp⟩
  · simp [Value.cells] at hcs
    obtain ⟨rfl, rfl, rfl⟩ := hcs
    have hlz : len ≤ zs.length := by rw [hz]; split <;> omega
    have hb : ∀ i, i < zs.length → ((UInt8.ofNat (zs.getD i 0).toNat).toNat : Int) = zs.getD i 0 := by
      intro i hi
      have hw := hwz (zs.getD i 0) (by rw [List.getD_eq_getElem?_getD, List.getElem?_eq_getElem hi]; simp)
      simp [Lit.wf, IntKind.min, IntKind.max, IntKind.signed, IntKind.bits] at hw
      rw [UInt8.toNat_ofNat']
      simp
      omega
    refine ⟨some x, len, cap, fun i => UInt8.ofNat (zs.getD i 0).toNat, rfl, fun i hi => ?_, by omega⟩
    have hc := hcell i (by omega)
    rw [← hb i (by omega)] at hc
    obtain ⟨b, off, s⟩ := x
    cases s with
    | none =>
      rw [Addr.add_lit] at hc
      exact ⟨b, off, rfl, World.block_lt_of_cell? w _ hc, hc⟩
    | some s =>
      exfalso
      replace hc := hcell 0 (by omega)
      unfold World.cell? Addr.add at hc
      simp only [Option.isNone_some, Option.isNone_none, if_true, if_false, Bool.false_eq_true, Nat.add_zero] at hc
      split at hc
      · cases hc
      · cases hc
end Go.Proofs.Ytmlgockejacjeaa
