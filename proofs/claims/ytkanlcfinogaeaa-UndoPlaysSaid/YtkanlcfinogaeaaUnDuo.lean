/-
  The two logs side by side: each call's contract for both.
-/
import Derived.Test.YtkanlcfinogaeaaUnAddI
import Derived.Test.YtkanlcfinogaeaaUnTie
import Derived.Test.YtkanlcfinogaeaaUnAgainB
namespace Go.Proofs.Ytkanlcfinogaeaa
open Go.RowKit
set_option linter.unusedVariables false
set_option linter.unusedSimpArgs false

/-- The types of which both logs' methods write blocks that were there. -/
def TP (t : TypeId) : Prop := TU t ∨ TR t
theorem Frm.tu {base : Nat} {w w' : World} (h : Frm TU base w w') : Frm TP base w w' := h.mono fun _ => .inl
theorem Frm.tb {base : Nat} {w w' : World} (h : Frm TB base w w') : Frm TP base w w' := h.mono fun _ h => .inl h.up
theorem Frm.tr {base : Nat} {w w' : World} (h : Frm TR base w w') : Frm TP base w w' := h.mono fun _ => .inr
structure Duo (w0 : World) (base l r : Nat) (S : ULS) (R : RLS) (w : World) : Prop where
  ur : UR base l S w
  rr : RR base r R w
  low : Below w0.heap.size w0 w
  hb : w0.heap.size ≤ base
theorem Duo.le {w0 : World} {base l r : Nat} {S : ULS} {R : RLS} {w : World} (h : Duo w0 base l r S R w) : base ≤ w.heap.size := h.ur.le
theorem Duo.below {w0 : World} {base l r : Nat} {S : ULS} {R : RLS} {w w' : World} (h : Duo w0 base l r S R w) (hb : Below w.heap.size w w') : Duo w0 base l r S R w' :=
  ⟨h.ur.below hb h.le, h.rr.below hb, h.low.trans (hb.mono h.low.size), h.hb⟩
theorem Duo.drewN {w0 : World} {base l r : Nat} {S : ULS} {R : RLS} {w : World} (h : Duo w0 base l r S R w) (n : Nat) : Duo w0 base l r S R (w.drewN n) := h.below (below_drewN (Below.refl _ _) n)
theorem Duo.u {w0 : World} {base l r : Nat} {S S' : ULS} {R : RLS} {w w' : World} (h : Duo w0 base l r S R w) (hu : UR base l S' w') (hf : Frm TU base w w') : Duo w0 base l r S' R w' :=
  ⟨hu, h.rr.frm hf (Nat.le_refl _) (by unfold TU; decide) (by unfold TU; decide) (by unfold TU; decide), h.low.trans (hf.low.mono h.hb), h.hb⟩
theorem Duo.r {w0 : World} {base l r : Nat} {S : ULS} {R R' : RLS} {w w' : World} (h : Duo w0 base l r S R w) (hu : RR base r R' w') (hf : Frm TR base w w') : Duo w0 base l r S R' w' :=
  ⟨h.ur.frm hf (Nat.le_refl _) (by unfold TR; decide) (by unfold TR; decide) (by unfold TR; decide) (by unfold TR; decide), hu, h.low.trans (hf.low.mono h.hb), h.hb⟩

/-- A row of entries, kept. -/
structure KeepE (base : Nat) (t : TypeId) (w : World) (A : Option Addr) (J : List Img) (c : Nat) : Prop where
  own : w.ownsRow base t 5 (.slice A J.length c) J.length (icells J)
  rd : ∀ x ∈ J, x.Rd base w
theorem KeepE.frm {T : TypeId → Prop} {base : Nat} {t : TypeId} {w w' : World} {A : Option Addr} {J : List Img} {c : Nat} (h : KeepE base t w A J c) (hf : Frm T base w w') (ht : ¬ T t) (hv : ¬ T 42) : KeepE base t w' A J c :=
  ⟨hf.owns h.own ht, fun x hx => (h.rd x hx).frm hf hv (Nat.le_refl _)⟩
theorem KeepE.below {base : Nat} {t : TypeId} {w w' : World} {A : Option Addr} {J : List Img} {c : Nat} (h : KeepE base t w A J c) (hb : Below w.heap.size w w') (hle : base ≤ w.heap.size) : KeepE base t w' A J c :=
  h.frm (T := TN) (Frm.ofBelow hb hle) (fun h => h) (fun h => h)
theorem KeepE.reads {base : Nat} {t : TypeId} {w : World} {A : Option Addr} {J : List Img} {c : Nat} (h : KeepE base t w A J c) : ReadsE w A J := ReadsE.of h.own h.rd
theorem KeepE.nil (base : Nat) (t : TypeId) (w : World) : KeepE base t w none [] 0 := ⟨World.ownsRow_nil _ _ _ _, fun x hx => by cases hx⟩

section
variable {w0 : World} {base l r : Nat} {S : ULS} {R : RLS} {w : World}
theorem Duo.save (K : Duo w0 base l r S R w) (hs : S.saves.length ≤ 100000) (s : ByteArray) :
    Calls Try.prog 11 #[.pointer (some ⟨l, 0, none⟩), .string s] w fun e w' => e = .returned (.tuple #[]) ∧ Duo w0 base l r { S with saves := S.saves ++ [(s, (S.entries.length : Int))] } R w' ∧ Frm TP base w w' :=
  (save_any K.ur hs s).mono fun e w' h => ⟨h.1, K.u h.2.1 h.2.2, h.2.2.tu⟩
theorem Duo.rsave (K : Duo w0 base l r S R w) (hl : R.items.length ≤ 100000) (s : ByteArray) :
    Calls Try.prog 12 #[.pointer (some ⟨r, 0, none⟩), .string s] w fun e w' => e = .returned (.tuple #[]) ∧ Duo w0 base l r S { R with items := R.items ++ [⟨true, s, ⟨0, 0, ⟨#[]⟩, [], []⟩⟩] } w' ∧ Frm TP base w w' :=
  (rsave_any K.rr hl s).mono fun e w' h => ⟨h.1, K.r h.2.1 h.2.2, h.2.2.tr⟩
theorem Duo.backNone (K : Duo w0 base l r S R w) (hsl : S.saves.length ≤ 100000) (name : ByteArray) (hno : ∀ (i : Nat) p, S.saves[i]? = some p → (p.1.toList == name.toList) = false) :
    Calls Try.prog 13 #[.pointer (some ⟨l, 0, none⟩), .string name] w fun e w' => e = .returned (.tuple #[.slice none 0 0, .int .i64 14]) ∧ Duo w0 base l r S R w' ∧ Frm TP base w w' :=
  (back_none K.ur hsl name hno).mono fun e w' h => ⟨h.1, K.below h.2, Frm.ofBelow h.2 K.le⟩
theorem Duo.back (K : Duo w0 base l r S R w) (ok : S.Ok) (hl : S.entries.length ≤ 200000) (hsl : S.saves.length ≤ 100000) (name : ByteArray) (i m : Nat) (s : ByteArray) (hi : S.saves[i]? = some (s, (m : Int))) (hs : (s.toList == name.toList) = true) (hno : ∀ (j : Nat) p, i < j → S.saves[j]? = some p → (p.1.toList == name.toList) = false) :
    Calls Try.prog 13 #[.pointer (some ⟨l, 0, none⟩), .string name] w fun e w' => ∃ A c J, e = .returned (.tuple #[.slice A J.length c, .int .i64 0]) ∧ J.map Img.e = (S.entries.drop m).reverse ∧ KeepE base 35 w' A J c ∧ Duo w0 base l r { S with entries := S.entries.take m, saves := S.saves.take (i + 1) } R w' ∧ Frm TP base w w' :=
  (back_some K.ur ok hl hsl name i m s hi hs hno).mono fun e w' h => by
    obtain ⟨A, c, J, rfl, hJ, ho, hr, hu, hf⟩ := h
    exact ⟨A, c, J, rfl, hJ, ⟨owns_up ho K.le, hr⟩, K.u hu (hf.mono fun _ h => h.up), hf.tb⟩
theorem Duo.rbackNone (K : Duo w0 base l r S R w) (hl : R.items.length ≤ 100000) (name : ByteArray) (hno : ∀ (i : Nat) y, R.items[i]? = some y → y.save = true → (y.name.toList == name.toList) = false) :
    Calls Try.prog 14 #[.pointer (some ⟨r, 0, none⟩), .string name] w fun e w' => e = .returned (.tuple #[.slice none 0 0, .int .i64 14]) ∧ w = w' := rback_none K.rr hl name hno
theorem Duo.rback (K : Duo w0 base l r S R w) (hl : R.items.length ≤ 100000) (name : ByteArray) (p : Nat) (ys : Itm) (hp : R.items[p]? = some ys) (hps : ys.save = true) (hpn : (ys.name.toList == name.toList) = true) (hno : ∀ (i : Nat) y, p < i → R.items[i]? = some y → y.save = true → (y.name.toList == name.toList) = false) :
    Calls Try.prog 14 #[.pointer (some ⟨r, 0, none⟩), .string name] w fun e w' => ∃ A c J, e = .returned (.tuple #[.slice A J.length c, .int .i64 0]) ∧ J.map Img.e = outE R.items (p + 1) ∧ KeepE base 40 w' A J c ∧ Duo w0 base l r S { R with items := R.items.take (p + 1) } w' ∧ Frm TR base w w' :=
  (rback_some K.rr hl name p ys hp hps hpn hno).mono fun e w' h => by
    obtain ⟨A, c, J, rfl, hJ, ho, hr, hu, hf⟩ := h
    exact ⟨A, c, J, rfl, hJ, ⟨owns_up ho K.le, hr⟩, K.r hu hf, hf⟩
theorem Duo.toMore (K : Duo w0 base l r S R w) (hl : R.items.length ≤ 100000) (n : Int) (hn : (cntE R.items : Int) < n) :
    Calls Try.prog 18 #[.pointer (some ⟨r, 0, none⟩), .int .i64 n] w fun e w' => e = .returned (.slice none 0 0) ∧ w = w' := rto_more K.rr hl n hn
/-- To, of both, where there are that many. -/
theorem Duo.to (K : Duo w0 base l r S R w) (hl : S.entries.length ≤ 200000) (hsl : S.saves.length ≤ 100000) (n : Int) (m : Nat) (hm : (m : Int) = if 0 > n then 0 else n) (hme : m ≤ S.entries.length)
    (k : Nat) (h1 : ∀ (i : Nat) p, i < k → S.saves[i]? = some p → p.2 ≤ (m : Int)) (h2 : ∀ (i : Nat) p, k ≤ i → S.saves[i]? = some p → (m : Int) < p.2) (hk : k ≤ S.saves.length) :
    Calls Try.prog 17 #[.pointer (some ⟨l, 0, none⟩), .int .i64 n] w fun e w' => ∃ A c J, e = .returned (.slice A J.length c) ∧ J.map Img.e = (S.entries.drop m).reverse ∧ KeepE base 35 w' A J c ∧ Duo w0 base l r { S with entries := S.entries.take m, saves := S.saves.take k } R w' ∧ Frm TP base w w' :=
  (to_any K.ur hl hsl n m hm hme k h1 h2 hk).mono fun e w' h => by
    obtain ⟨A, c, J, rfl, hJ, ho, hr, hu, hf⟩ := h
    exact ⟨A, c, J, rfl, hJ, ⟨owns_up ho K.le, hr⟩, K.u hu (hf.mono fun _ h => h.up), hf.tb⟩
theorem Duo.rto (K : Duo w0 base l r S R w) (hl : R.items.length ≤ 100000) (n : Int) (m : Nat) (hm : (m : Int) = if 0 > n then 0 else n) (hme : m ≤ cntE R.items) :
    Calls Try.prog 18 #[.pointer (some ⟨r, 0, none⟩), .int .i64 n] w fun e w' => ∃ (j : Nat) (A : Option Addr) (c : Nat) (J : List Img), e = .returned (.slice A J.length c) ∧ j ≤ R.items.length ∧ cntE (R.items.take j) = m ∧ (∀ i, j < i → i ≤ R.items.length → m < cntE (R.items.take i)) ∧ J.map Img.e = outE R.items j ∧ KeepE base 40 w' A J c ∧ Duo w0 base l r S { R with items := R.items.take j } w' ∧ Frm TR base w w' := by
  have h : Calls Try.prog 18 #[.pointer (some ⟨r, 0, none⟩), .int .i64 n] w (RToPost base r R m w) := by
    by_cases hn : n < 0
    · rw [if_pos hn] at hm
      obtain rfl : m = 0 := by omega
      exact rto_neg K.rr hl n hn hme
    · rw [if_neg (by omega)] at hm
      subst hm
      exact rto_core K.rr hl m hme
  refine h.mono fun e w' h => ?_
  obtain ⟨j, A, c, J, rfl, hj, hc, hh, hJ, ho, hr, hu, hf⟩ := h
  exact ⟨j, A, c, J, rfl, hj, hc, hh, hJ, ⟨owns_up ho K.le, hr⟩, K.r hu hf, hf⟩
theorem Duo.plain (K : Duo w0 base l r S R w) {A : Option Addr} {J : List Img} {c : Nat} (hk : KeepE base 35 w A J c) (hl : J.length ≤ 1000000) :
    Calls Try.prog 16 #[.slice A J.length c] w fun e w' => ∃ B d, e = .returned (.slice B J.length d) ∧ KeepE base 40 w' B J d ∧ Below w.heap.size w w' ∧ Duo w0 base l r S R w' :=
  (plain_any A J c hk.reads hl).mono fun e w' h => by
    obtain ⟨B, d, rfl, ho, hb⟩ := h
    exact ⟨B, d, rfl, ⟨owns_up ho K.le, (hk.below hb K.le).rd⟩, hb, K.below hb⟩
end
end Go.Proofs.Ytkanlcfinogaeaa
