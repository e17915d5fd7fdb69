/-
  Package arena: its methods, seen from a caller that keeps one arena.
-/
import Derived.Test.YtmlgockejacjeaaArNew
namespace Go.Proofs.Ytmlgockejacjeaa
open Go.RowKit
set_option linter.unusedVariables false
set_option linter.unusedSimpArgs false

/-- From w0 on nothing below base has turned; there arena S lies at a. -/
structure At (base a : Nat) (S : ArS) (w0 w : World) : Prop where
  below : Below base w0 w
  le : base ≤ w0.heap.size
  ar : ∃ own, AR base a S own w
theorem At.mk' {base a : Nat} {S : ArS} {own : Nat → Prop} {w0 w : World} (h : Below base w0 w) (hl : base ≤ w0.heap.size) (hA : AR base a S own w) : At base a S w0 w := ⟨h, hl, own, hA⟩
theorem At.grows {base a : Nat} {S S' : ArS} {own own' : Nat → Prop} {w0 w w' : World} (h : At base a S w0 w) (hA : AR base a S own w) (h' : AR base a S' own' w') (hg : Grows own own' w w') : At base a S' w0 w' :=
  ⟨h.below.trans (hg.chg.below (fun i hi ho => by have := (hA.lt i ho).1; omega) (Nat.le_trans h.le h.below.size)), h.le, own', h'⟩
theorem At.drewN {base a : Nat} {S : ArS} {w0 w : World} (h : At base a S w0 w) (n : Nat) : At base a S w0 (w.drewN n) := ⟨below_drewN h.below n, h.le, h.ar.elim fun o h => ⟨o, h.drewN n⟩⟩
theorem At.news {base a : Nat} {S : ArS} {w0 w w' : World} (h : At base a S w0 w) (hb : Below w.heap.size w w') : At base a S w0 w' :=
  ⟨h.below.trans (hb.mono (Nat.le_trans h.le h.below.size)), h.le, h.ar.elim fun o hA => ⟨o, hA.stay (fun k hk => hb.block k (hA.lt k hk).2) (fun k c hc => hb.block k (lt_of_block hc))⟩⟩

theorem At.new {base a : Nat} {S : ArS} {w0 w : World} (h : At base a S w0 w) (ok : S.Ok) (hl1 : S.left ≠ 0) (hf : S.free = []) :
    Calls Try.prog 10 #[.pointer (some ⟨a, 0, none⟩)] w fun e w' => e = .returned (.tuple #[.int .i64 ((S.pages.length : Int) + 1), .int .i64 0]) ∧ At base a { S with pages := S.pages ++ [some zpage] } w0 w' := by
  obtain ⟨own, hA⟩ := h.ar
  refine (alloc_new hA ok hl1 hf).mono ?_
  rintro e w' ⟨rfl, own', h', hg⟩
  exact ⟨rfl, h.grows hA h' hg⟩
theorem At.again {base a : Nat} {S : ArS} {w0 w : World} (h : At base a S w0 w) (ok : S.Ok) (hl1 : S.left ≠ 0) (fr : List Int) (n : Int) (hf : S.free = fr ++ [n]) :
    Calls Try.prog 10 #[.pointer (some ⟨a, 0, none⟩)] w fun e w' => e = .returned (.tuple #[.int .i64 n, .int .i64 0]) ∧ At base a { S with pages := S.pages.set (n - 1).toNat (some zpage), free := fr } w0 w' := by
  obtain ⟨own, hA⟩ := h.ar
  refine (alloc_again hA ok hl1 fr n hf).mono ?_
  rintro e w' ⟨rfl, own', h', hg⟩
  exact ⟨rfl, h.grows hA h' hg⟩
theorem At.full {base a : Nat} {S : ArS} {w0 w : World} (h : At base a S w0 w) (ok : S.Ok) (hl1 : S.left = 0) :
    Calls Try.prog 10 #[.pointer (some ⟨a, 0, none⟩)] w fun e w' => e = .returned (.tuple #[.int .i64 0, .int .i64 9]) ∧ At base a S w0 w' := by
  obtain ⟨own, hA⟩ := h.ar
  refine (alloc_full hA ok hl1).mono ?_
  rintro e w' ⟨rfl, n, rfl⟩
  exact ⟨rfl, h.drewN n⟩
theorem At.free {base a : Nat} {S : ArS} {w0 w : World} (h : At base a S w0 w) (ok : S.Ok) (n : Int) {l : List UInt8} (hp : S.page n = some l) :
    Calls Try.prog 17 #[.pointer (some ⟨a, 0, none⟩), .int .i64 n] w fun e w' => e = .returned (.int .i64 0) ∧ At base a (S.drop n) w0 w' := by
  obtain ⟨own, hA⟩ := h.ar
  refine (free_in hA ok n hp).mono ?_
  rintro e w' ⟨rfl, own', h', hg⟩
  exact ⟨rfl, h.grows hA h' hg⟩
end Go.Proofs.Ytmlgockejacjeaa
