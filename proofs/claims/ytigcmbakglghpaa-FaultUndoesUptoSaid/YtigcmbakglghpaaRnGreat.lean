/-
  Size and Deep, as printed: what 'great' says of a program of steps; Same of a list with itself.
-/
import Derived.Test.YtigcmbakglghpaaRnRef
namespace Go.Proofs.Ytigcmbakglghpaa
open Go.RowKit Go.Proofs.YtigcmbakglghpaaW.PrintWords Go.Proofs.YtigcmbakglghpaaW.PrintLast Go.Proofs.YtigcmbakglghpaaW.PrintMore Go.Proofs.Ytigcmbakglghpaa.PFaultRuns
set_option linter.unusedVariables false
set_option linter.unusedSimpArgs false

def szL (f : List S50 → Int → Int) (m : Int) : List S50 → Int → Int
  | [], n => n
  | x :: t, n => if n ≤ m then szL f m t (n + 1 + f x.f3 (m - n) + f x.f4 (m - n)) else n
def szF : Nat → List S50 → Int → Int
  | 0, _, _ => 0
  | N + 1, l, m => szL (szF N) m l 0
theorem szL_lo (f : List S50 → Int → Int) (m : Int) (hf : ∀ l q, 0 ≤ f l q) : ∀ (l : List S50) (n : Int), n ≤ szL f m l n
  | [], n => Int.le_refl _
  | x :: t, n => by
    have a := hf x.f3 (m - n)
    have b := hf x.f4 (m - n)
    have c := szL_lo f m hf t (n + 1 + f x.f3 (m - n) + f x.f4 (m - n))
    simp only [szL]
    split <;> omega
theorem szF_lo : ∀ (N : Nat) (l : List S50) (m : Int), 0 ≤ szF N l m
  | 0, _, _ => Int.le_refl _
  | N + 1, l, m => szL_lo (szF N) m (szF_lo N) l 0
theorem szL_hi (f : List S50 → Int → Int) (g : List S50 → Nat) (m : Int) (hf : ∀ l q, f l q ≤ (g l : Int)) : ∀ (l : List S50) (n : Int), szL f m l n ≤ n + (szl g l : Int)
  | [], n => by simp [szL, szl]
  | x :: t, n => by
    have a := hf x.f3 (m - n)
    have b := hf x.f4 (m - n)
    have c := szL_hi f g m hf t (n + 1 + f x.f3 (m - n) + f x.f4 (m - n))
    simp only [szL, szl]
    split <;> omega
theorem szF_hi : ∀ (N : Nat) (l : List S50) (m : Int), szF N l m ≤ (sz N l : Int)
  | 0, _, _ => Int.le_refl _
  | N + 1, l, m => by
    have := szL_hi (szF N) (sz N) m (fun q r => szF_hi N q r) l 0
    rw [Int.zero_add] at this
    exact this
theorem szL_eq (f : List S50 → Int → Int) (g : List S50 → Nat) (m : Int) (h0 : ∀ l q, 0 ≤ f l q) (hf : ∀ l q, f l q ≤ q → f l q = (g l : Int)) : ∀ (l : List S50) (n : Int), szL f m l n ≤ m → szL f m l n = n + (szl g l : Int)
  | [], n, _ => by simp [szL, szl]
  | x :: t, n, h => by
    have a := h0 x.f3 (m - n)
    have b := h0 x.f4 (m - n)
    have lo := szL_lo f m h0 t (n + 1 + f x.f3 (m - n) + f x.f4 (m - n))
    simp only [szL] at h ⊢
    split
    · rename_i hn
      rw [if_pos hn] at h
      have e3 := hf x.f3 (m - n) (by omega)
      have e4 := hf x.f4 (m - n) (by omega)
      have ih := szL_eq f g m h0 hf t _ h
      rw [ih, e3, e4]
      simp only [szl]
      omega
    · rename_i hn
      rw [if_neg hn] at h
      omega
theorem szF_eq : ∀ (N : Nat) (l : List S50) (m : Int), szF N l m ≤ m → szF N l m = (sz N l : Int)
  | 0, _, _, _ => rfl
  | N + 1, l, m, h => by
    have := szL_eq (szF N) (sz N) m (szF_lo N) (szF_eq N) l 0 h
    rw [Int.zero_add] at this
    exact this
def dpL (f : List S50 → Int) : List S50 → Int → Int
  | [], n => n
  | x :: t, n => dpL f t (max (max n (1 + f x.f3)) (1 + f x.f4))
def dpF : Nat → List S50 → Int
  | 0, _ => 0
  | N + 1, l => dpL (dpF N) l 0
theorem dpL_lo (f : List S50 → Int) : ∀ (l : List S50) (n : Int), n ≤ dpL f l n ∧ ∀ x ∈ l, 1 + f x.f3 ≤ dpL f l n ∧ 1 + f x.f4 ≤ dpL f l n
  | [], n => ⟨Int.le_refl _, fun x hx => by cases hx⟩
  | x :: t, n => by
    obtain ⟨a, b⟩ := dpL_lo f t (max (max n (1 + f x.f3)) (1 + f x.f4))
    refine ⟨by simp only [dpL]; omega, fun y hy => ?_⟩
    simp only [dpL]
    rcases List.mem_cons.1 hy with rfl | hy
    · omega
    · exact b y hy
theorem dpF_lo (N : Nat) (l : List S50) : 0 ≤ dpF N l := by
  cases N with
  | zero => exact Int.le_refl _
  | succ N => exact (dpL_lo (dpF N) l 0).1
theorem dpL_hi (f : List S50 → Int) (g : List S50 → Nat) (hf : ∀ l, f l ≤ (g l : Int)) : ∀ (l : List S50) (n : Int), 0 ≤ n → dpL f l n ≤ n + (szl g l : Int)
  | [], n, _ => by simp [dpL, szl]
  | x :: t, n, h => by
    have a := hf x.f3
    have b := hf x.f4
    have c := dpL_hi f g hf t (max (max n (1 + f x.f3)) (1 + f x.f4)) (by omega)
    simp only [dpL, szl]
    omega
theorem dpF_hi : ∀ (N : Nat) (l : List S50), dpF N l ≤ (sz N l : Int)
  | 0, _ => Int.le_refl _
  | N + 1, l => by
    have := dpL_hi (dpF N) (sz N) (dpF_hi N) l 0 (Int.le_refl _)
    rw [Int.zero_add] at this
    exact this
theorem dpF_Dp : ∀ (d : Nat) (N : Nat) (l : List S50), Dp N l → dpF N l ≤ (d : Int) → Dp d l
  | d, 0, l, h, _ => by
    have h0 : l = [] := h
    subst h0
    cases d with
    | zero => rfl
    | succ d => intro x hx; cases hx
  | 0, N + 1, l, h, hd => by
    show l = []
    cases l with
    | nil => rfl
    | cons x t =>
      have := ((dpL_lo (dpF N) (x :: t) 0).2 x List.mem_cons_self).1
      have h2 := dpF_lo N x.f3
      have h3 : dpL (dpF N) (x :: t) 0 ≤ 0 := hd
      omega
  | d + 1, N + 1, l, h, hd => fun x hx => by
    have h1 := (dpL_lo (dpF N) l 0).2 x hx
    have h3 : dpL (dpF N) l 0 ≤ ((d + 1 : Nat) : Int) := hd
    exact ⟨dpF_Dp d N x.f3 (h x hx).1 (by omega), dpF_Dp d N x.f4 (h x hx).2 (by omega)⟩
theorem sz_same : ∀ (d N : Nat) (l : List S50), Dp d l → Dp N l → sz d l = sz N l
  | 0, N, l, h, _ => by
    have h0 : l = [] := h
    subst h0
    rw [sz_nil, sz_nil]
  | d + 1, 0, l, _, h => by
    have h0 : l = [] := h
    subst h0
    rw [sz_nil, sz_nil]
  | d + 1, N + 1, l, h, h2 => by
    show szl (sz d) l = szl (sz N) l
    induction l with
    | nil => rfl
    | cons x t ih =>
      have a := h x List.mem_cons_self
      have b := h2 x List.mem_cons_self
      simp only [szl]
      rw [sz_same d N x.f3 a.1 b.1, sz_same d N x.f4 a.2 b.2, ih (fun y hy => h y (List.mem_cons_of_mem _ hy)) (fun y hy => h2 y (List.mem_cons_of_mem _ hy))]
theorem wrap_id (x : Int) (h : -4000000000 ≤ x) (h2 : x ≤ 4000000000) : wrap64 x = x := by
  unfold wrap64
  omega
theorem mem_sz {N : Nat} {l : List S50} {x : S50} (hx : x ∈ l) : 1 + sz N x.f3 + sz N x.f4 ≤ sz (N + 1) l := szl_mem (sz N) l x hx
theorem size_ev : ∀ (N : Nat) (l : List S50) (m : Int), Dp N l → sz N l ≤ 2000000 → 0 ≤ m → m ≤ 2000000 → Evt (fun k => tripwireref01_Size.f k l m) (szF N l m)
  | 0, l, m, h, _, _, _ => by
    have h0 : l = [] := h
    subst h0
    refine Evt.mk1 2 fun k hk => ?_
    obtain ⟨q, rfl⟩ : ∃ q, k = q + 1 + 1 := ⟨k - 2, by omega⟩
    simp [tripwireref01_Size.f, tripwireref01_Size.l0, tripwireref01_Size.j1, szF]
  | N + 1, l, m, h, hs, hm0, hm => by
    have hlen := len_sz (N + 1) l h
    have key : ∀ (t p : List S50) (n : Int), l = p ++ t → 0 ≤ n → n + (szl (sz N) t : Int) ≤ 2000000 → Evt (fun k => tripwireref01_Size.l0 k l m n (p.length : Int)) (szL (szF N) m t n) := fun t => by
      induction t with
      | nil =>
        intro p n hp h0 h1
        refine Evt.mk1 1 fun k hk => ?_
        obtain ⟨q, rfl⟩ : ∃ q, k = q + 1 := ⟨k - 1, by omega⟩
        have hl2 : l.length = p.length := by rw [hp]; simp
        simp only [tripwireref01_Size.l0]
        rw [if_neg (by omega)]
        simp [tripwireref01_Size.j1, szL]
      | cons x t ih =>
        intro p n hp h0 h1
        have hl2 : l.length = p.length + (t.length + 1) := by rw [hp]; simp
        have hrd : rd_T50 l (p.length : Int) = x := by rw [hp]; exact rd_at p t x
        have hw : wrap64 ((p.length : Int) + 1) = ((p ++ [x]).length : Int) := by
          rw [wrap_nat _ (by omega)]; simp
        by_cases hn : n ≤ m
        · have hd := h x (by rw [hp]; simp)
          have hmx := mem_sz (N := N) (l := l) (x := x) (by rw [hp]; simp)
          have a1 := szF_lo N x.f3 (m - n)
          have a2 := szF_hi N x.f3 (m - n)
          have b1 := szF_lo N x.f4 (m - n)
          have b2 := szF_hi N x.f4 (m - n)
          simp only [szl] at h1
          have e3 := size_ev N x.f3 (m - n) hd.1 (by omega) (by omega) (by omega)
          have e4 := size_ev N x.f4 (m - n) hd.2 (by omega) (by omega) (by omega)
          have ih2 := ih (p ++ [x]) (n + 1 + szF N x.f3 (m - n) + szF N x.f4 (m - n)) (by rw [hp]; simp) (by omega) (by omega)
          obtain ⟨k0, hk⟩ := e3.both e4
          obtain ⟨k1, hk1⟩ := ih2
          refine Evt.mk1 (max k0 k1 + 1) fun k hk2 => ?_
          obtain ⟨q, rfl⟩ : ∃ q, k = q + 1 := ⟨k - 1, by omega⟩
          obtain ⟨q1, q2⟩ := hk q (by omega)
          have q3 := hk1 q (by omega)
          simp only [tripwireref01_Size.l0]
          rw [if_pos (by omega), decide_eq_true hn]
          simp only [tripwireref01_Size.j1]
          rw [if_pos trivial, if_pos (by omega), if_pos (by omega), hrd, wrap_id (m - n) (by omega) (by omega), q1, Option.bind_some, q2, Option.bind_some, wrap_id (n + 1) (by omega) (by omega), wrap_id (n + 1 + _) (by omega) (by omega), wrap_id (n + 1 + _ + _) (by omega) (by omega), hw]
          refine Eq.trans q3 ?_
          simp only [szL]
          rw [if_pos hn]
        · refine Evt.mk1 1 fun k hk => ?_
          obtain ⟨q, rfl⟩ : ∃ q, k = q + 1 := ⟨k - 1, by omega⟩
          simp only [tripwireref01_Size.l0]
          rw [if_pos (by omega), decide_eq_false hn]
          simp only [tripwireref01_Size.j1, szL]
          rw [if_neg hn]
          simp
    obtain ⟨k0, hk⟩ := key l [] 0 rfl (Int.le_refl _) (by rw [Int.zero_add]; exact Int.ofNat_le.2 hs)
    refine Evt.mk1 k0 fun k h6 => ?_
    simp only [tripwireref01_Size.f]
    exact hk k h6
theorem deep_ev : ∀ (N : Nat) (l : List S50), Dp N l → sz N l ≤ 2000000 → Evt (fun k => tripwireref01_Deep.f k l) (dpF N l)
  | 0, l, h, _ => by
    have h0 : l = [] := h
    subst h0
    refine Evt.mk1 1 fun k hk => ?_
    obtain ⟨q, rfl⟩ : ∃ q, k = q + 1 := ⟨k - 1, by omega⟩
    simp [tripwireref01_Deep.f, tripwireref01_Deep.l0, dpF]
  | N + 1, l, h, hs => by
    have hlen := len_sz (N + 1) l h
    have key : ∀ (t p : List S50) (n : Int), l = p ++ t → 0 ≤ n → n + (szl (sz N) t : Int) ≤ 4000000 → Evt (fun k => tripwireref01_Deep.l0 k l n (p.length : Int)) (dpL (dpF N) t n) := fun t => by
      induction t with
      | nil =>
        intro p n hp h0 h1
        refine Evt.mk1 0 fun k hk => ?_
        have hl2 : l.length = p.length := by rw [hp]; simp
        simp only [tripwireref01_Deep.l0]
        rw [if_neg (by omega)]
        simp [dpL]
      | cons x t ih =>
        intro p n hp h0 h1
        have hl2 : l.length = p.length + (t.length + 1) := by rw [hp]; simp
        have hrd : rd_T50 l (p.length : Int) = x := by rw [hp]; exact rd_at p t x
        have hw : wrap64 ((p.length : Int) + 1) = ((p ++ [x]).length : Int) := by
          rw [wrap_nat _ (by omega)]; simp
        have hd := h x (by rw [hp]; simp)
        have hmx := mem_sz (N := N) (l := l) (x := x) (by rw [hp]; simp)
        have a1 := dpF_lo N x.f3
        have a2 := dpF_hi N x.f3
        have b1 := dpF_lo N x.f4
        have b2 := dpF_hi N x.f4
        simp only [szl] at h1
        have ih2 := ih (p ++ [x]) (max (max n (1 + dpF N x.f3)) (1 + dpF N x.f4)) (by rw [hp]; simp) (by omega) (by omega)
        obtain ⟨k0, hk⟩ := (deep_ev N x.f3 hd.1 (by omega)).both (deep_ev N x.f4 hd.2 (by omega))
        obtain ⟨k1, hk1⟩ := ih2
        refine Evt.mk1 (max k0 k1) fun k hk2 => ?_
        obtain ⟨q1, q2⟩ := hk k (by omega)
        have q3 := hk1 k (by omega)
        simp only [tripwireref01_Deep.l0]
        rw [if_pos (by omega), if_pos (by omega), hrd, q1, Option.bind_some, wrap_id (1 + dpF N x.f3) (by omega) (by omega), q2, Option.bind_some, Option.bind_some, wrap_id (1 + dpF N x.f4) (by omega) (by omega), hw]
        simp only [dpL]
        by_cases c1 : 1 + dpF N x.f3 > n
        · rw [if_pos c1]
          by_cases c2 : 1 + dpF N x.f4 > 1 + dpF N x.f3
          · rw [if_pos c2, ← q3]; congr 1; omega
          · rw [if_neg c2, ← q3]; congr 1; omega
        · rw [if_neg c1]
          by_cases c2 : 1 + dpF N x.f4 > n
          · rw [if_pos c2, ← q3]; congr 1; omega
          · rw [if_neg c2, ← q3]; congr 1; omega
    obtain ⟨k0, hk⟩ := key l [] 0 rfl (Int.le_refl _) (by rw [Int.zero_add]; exact Int.ofNat_le.2 (Nat.le_trans hs (by decide)))
    refine Evt.mk1 k0 fun k h6 => ?_
    simp only [tripwireref01_Deep.f]
    exact hk k h6
/-- 'great' says no: up to 300 steps, 30 within one another. -/
theorem great_ev (N : Nat) (l : List S50) (h : Dp N l) (hs : sz N l ≤ 2000000) : ∃ b k, tripwirelaw01_great.f k l = some b ∧ (b = false → Dp 30 l ∧ sz 30 l ≤ 300) := by
  obtain ⟨k0, hk⟩ := (size_ev N l 300 h hs (by omega) (by omega)).both (deep_ev N l h hs)
  obtain ⟨q1, q2⟩ := hk k0 (Nat.le_refl _)
  by_cases c : szF N l 300 > 300
  · exact ⟨true, k0, by simp only [tripwirelaw01_great.f]; rw [q1, Option.bind_some, if_pos c], fun h => by cases h⟩
  · refine ⟨decide (dpF N l > 30), k0, by simp only [tripwirelaw01_great.f]; rw [q1, Option.bind_some, if_neg c, q2, Option.bind_some], fun hb => ?_⟩
    have h1 : ¬ dpF N l > 30 := of_decide_eq_false hb
    have h2 := dpF_Dp 30 N l h (by omega)
    have h3 := szF_eq N l 300 (by omega)
    have h4 := sz_same 30 N l h2 h
    exact ⟨h2, by omega⟩
theorem same_ev (l : List S53) (h : l.length ≤ 1000000) : ∃ k, tripwireref01_Same.f k l l = some true := by
  have key : ∀ (d i : Nat), i + d = l.length → tripwireref01_Same.l0 (d + 1) l l (i : Int) = some true := fun d => by
    induction d with
    | zero =>
      intro i hi
      simp only [tripwireref01_Same.l0]
      rw [if_neg (by omega)]
    | succ d ih =>
      intro i hi
      rw [tripwireref01_Same.l0]
      rw [if_pos (by omega), if_pos (by omega), if_pos (by omega), if_neg (by simp), wrap_nat _ (by omega)]
      exact ih (i + 1) (by omega)
  refine ⟨l.length + 1, ?_⟩
  unfold tripwireref01_Same.f
  rw [if_pos rfl]
  exact key l.length 0 (by omega)
end Go.Proofs.Ytigcmbakglghpaa
