/-
  The law SchemaFits: what is wrong with a row, by schema.Fit and by the reference's Fit.
-/
import Derived.Test.YtdkdjdlndcihmaaSchemaAwake
import Derived.Test.YtdkdjdlndcihmaaOpen
import Derived.Deep.QuietTactic
namespace Go.Proofs.Ytdkdjdlndcihmaa
open Go.RowKit Go.WideShapes
set_option linter.unusedVariables false
set_option linter.unusedSimpArgs false

section
variable {H : Type} {enc : TypeId × Value → H} {w : World} {sp : Nat → Bool} {hd : Bool}

theorem elem_col {b o : Nat} (h : ElemAt enc Try.prog w sp hd 35 b o) : ∃ c : Col, w.cell? ⟨b, o, none⟩ = some (.string c.name) ∧ w.cell? ⟨b, o + 1, none⟩ = some (.int .i64 c.typ) ∧ w.cell? ⟨b, o + 2, none⟩ = some (.bool c.nn) ∧ w.cell? ⟨b, o + 3, none⟩ = some (.bool c.uq) := by
  obtain ⟨cs, n, x, hl, hc, ht⟩ := h
  have h4 : Try.prog.cellsOf 35 = 4 := by kernel_rfl
  rw [h4] at hl hc
  match cs, hl with
  | [c0, c1, c2, c3], _ =>
    obtain ⟨xs, m, _, _, _, hxl, hf⟩ := DataW.trod_struct Try.underlying35 ht
    match xs, hxl with
    | [y0, y1, y2, y3], _ =>
      have k0 : Try.prog.cellsOf 9 = 1 := by kernel_rfl
      have k1 : Try.prog.cellsOf 3 = 1 := by kernel_rfl
      have k2 : Try.prog.cellsOf 4 = 1 := by kernel_rfl
      have f0 := hf 0 _ rfl
      have f1 := hf 1 _ rfl
      have f2 := hf 2 _ rfl
      have f3 := hf 3 _ rfl
      simp [k0, k1, k2] at f0 f1 f2 f3
      obtain ⟨s, e0, _, _⟩ := DataW.trod_string Try.underlying9 f0
      obtain ⟨i, e1, _, _⟩ := DataW.trod_int Try.underlying3 f1
      obtain ⟨p, e2, _⟩ := DataW.trod_bool Try.underlying4 f2
      obtain ⟨q, e3, _⟩ := DataW.trod_bool Try.underlying4 f3
      simp at e0 e1 e2 e3
      subst e0 e1 e2 e3
      exact ⟨⟨s, i, p, q⟩, hc 0 (by omega), hc 1 (by omega), hc 2 (by omega), hc 3 (by omega)⟩

theorem elem_val {b o : Nat} (h : ElemAt enc Try.prog w sp hd 37 b o) : ∃ c : Val, w.cell? ⟨b, o, none⟩ = some (.int .i64 c.kind) ∧ w.cell? ⟨b, o + 1, none⟩ = some (.int .i64 c.n) ∧ w.cell? ⟨b, o + 2, none⟩ = some (.string c.s) := by
  obtain ⟨cs, n, x, hl, hc, ht⟩ := h
  have h4 : Try.prog.cellsOf 37 = 3 := by kernel_rfl
  rw [h4] at hl hc
  match cs, hl with
  | [c0, c1, c2], _ =>
    obtain ⟨xs, m, _, _, _, hxl, hf⟩ := DataW.trod_struct Try.underlying37 ht
    match xs, hxl with
    | [y0, y1, y2], _ =>
      have k0 : Try.prog.cellsOf 9 = 1 := by kernel_rfl
      have k1 : Try.prog.cellsOf 3 = 1 := by kernel_rfl
      have f0 := hf 0 _ rfl
      have f1 := hf 1 _ rfl
      have f2 := hf 2 _ rfl
      simp [k0, k1] at f0 f1 f2
      obtain ⟨i, e0, _, _⟩ := DataW.trod_int Try.underlying3 f0
      obtain ⟨j, e1, _, _⟩ := DataW.trod_int Try.underlying3 f1
      obtain ⟨s, e2, _, _⟩ := DataW.trod_string Try.underlying9 f2
      simp at e0 e1 e2
      subst e0 e1 e2
      exact ⟨⟨i, j, s⟩, hc 0 (by omega), hc 1 (by omega), hc 2 (by omega)⟩

theorem list_of {α : Type} {n : Nat} {p : Nat → α → Prop} (h : ∀ i, i < n → ∃ x, p i x) : ∃ l : List α, l.length = n ∧ ∀ i x, l[i]? = some x → p i x := by
  induction n with
  | zero => exact ⟨[], rfl, fun i x hx => by simp at hx⟩
  | succ n ih =>
    obtain ⟨l, hl, hp⟩ := ih (fun i hi => h i (by omega))
    obtain ⟨x, hx⟩ := h n (by omega)
    refine ⟨l ++ [x], by simp [hl], fun i y hy => ?_⟩
    rw [List.getElem?_append] at hy
    split at hy
    · exact hp i y hy
    · rename_i hi
      have e : i = n := by
        rcases Nat.lt_or_ge i (n + 1) with h5 | h5
        · omega
        · rw [List.getElem?_eq_none (by simp; omega)] at hy; cases hy
      subst e
      rw [hl, Nat.sub_self] at hy
      simp at hy
      subst hy
      exact hx

theorem open_cols {v : Value} {d : DataW H} {p : List MemPlace} {base : Nat} (hv : Value.okWide Try.prog w .any base 24 v) (h : DataW.Trod enc Try.prog w 0 sp hd 24 v d p) :
    ∃ A cap, ∃ cs : List Col, v = .slice A cs.length cap ∧ ReadsC w A cs := by
  obtain ⟨a, len, cap, rfl⟩ := okWide_slice Try.underlying24 hv
  obtain ⟨fuel, hf⟩ := h
  have k4 : Try.prog.cellsOf 35 = 4 := by kernel_rfl
  rcases slice_cells Try.underlying24 (by rw [k4]; omega) hf with ⟨rfl, rfl, rfl⟩ | ⟨_, _, ad, rfl, hi⟩
  · exact ⟨_, _, [], rfl, fun i c hc => by simp at hc⟩
  · obtain ⟨cs, hl, hp⟩ := list_of (p := fun i (c : Col) => ∃ b off, some ad = some ⟨b, off, none⟩ ∧ b < w.heap.size ∧ w.cell? ⟨b, off + i * 4, none⟩ = some (.string c.name) ∧ w.cell? ⟨b, off + i * 4 + 1, none⟩ = some (.int .i64 c.typ) ∧ w.cell? ⟨b, off + i * 4 + 2, none⟩ = some (.bool c.nn) ∧ w.cell? ⟨b, off + i * 4 + 3, none⟩ = some (.bool c.uq)) (fun i hlt => by
      obtain ⟨b, off, rfl, hb, he⟩ := hi i hlt
      rw [k4] at he
      obtain ⟨c, h1⟩ := elem_col he
      exact ⟨c, b, off, rfl, hb, h1⟩)
    subst hl
    exact ⟨_, _, cs, rfl, hp⟩

theorem open_vals {v : Value} {d : DataW H} {p : List MemPlace} {base : Nat} (hv : Value.okWide Try.prog w .any base 25 v) (h : DataW.Trod enc Try.prog w 0 sp hd 25 v d p) :
    ∃ A cap, ∃ vs : List Val, v = .slice A vs.length cap ∧ ReadsV w A vs := by
  obtain ⟨a, len, cap, rfl⟩ := okWide_slice Try.underlying25 hv
  obtain ⟨fuel, hf⟩ := h
  have k4 : Try.prog.cellsOf 37 = 3 := by kernel_rfl
  rcases slice_cells Try.underlying25 (by rw [k4]; omega) hf with ⟨rfl, rfl, rfl⟩ | ⟨_, _, ad, rfl, hi⟩
  · exact ⟨_, _, [], rfl, fun i c hc => by simp at hc⟩
  · obtain ⟨cs, hl, hp⟩ := list_of (p := fun i (c : Val) => ∃ b off, some ad = some ⟨b, off, none⟩ ∧ b < w.heap.size ∧ w.cell? ⟨b, off + i * 3, none⟩ = some (.int .i64 c.kind) ∧ w.cell? ⟨b, off + i * 3 + 1, none⟩ = some (.int .i64 c.n) ∧ w.cell? ⟨b, off + i * 3 + 2, none⟩ = some (.string c.s)) (fun i hlt => by
      obtain ⟨b, off, rfl, hb, he⟩ := hi i hlt
      rw [k4] at he
      obtain ⟨c, h1⟩ := elem_val he
      exact ⟨c, b, off, rfl, hb, h1⟩)
    subst hl
    exact ⟨_, _, cs, rfl, hp⟩
end

/-- What great tells: where it is false, the lists are short, and their texts. -/
def GreatIs (cs : List Col) (vs : List Val) (w : World) (e : Ending) (w' : World) : Prop :=
  ∃ g : Bool, e = .returned (.bool g) ∧ (g = false → cs.length ≤ 50 ∧ vs.length ≤ 50 ∧ ∀ (i : Nat) c, cs[i]? = some c → c.name.size ≤ 1000) ∧ Below w.heap.size w w'

set_option maxHeartbeats 1000000 in
theorem great_any (A B : Option Addr) (cc cv : Nat) (cs : List Col) (vs : List Val) (w : World) (hc : ReadsC w A cs) (hv : ReadsV w B vs) :
    Calls Try.prog 9 #[.slice A cs.length cc, .slice B vs.length cv] w (GreatIs cs vs w) := by
  by_cases h1 : 50 < cs.length
  · have h1' : (50 : Int) < (cs.length : Int) := by omega
    go_enter Try.func9, Try.ntmps9
    go_wp2
    go_ret
    exact ⟨true, rfl, (fun h => by cases h), Below.refl _ _⟩
  · have h1' : ¬ (50 : Int) < (cs.length : Int) := by omega
    by_cases h2 : 50 < vs.length
    · have h2' : (50 : Int) < (vs.length : Int) := by omega
      go_enter Try.func9, Try.ntmps9
      go_wp2
      go_ret
      exact ⟨true, rfl, (fun h => by cases h), Below.refl _ _⟩
    · have h2' : ¬ (50 : Int) < (vs.length : Int) := by omega
      have HC := Lib.hid hc; have HV := Lib.hid hv; clear hc hv
      go_enter Try.func9, Try.ntmps9
      go_wp2
      go_loopw [19] (fun i wr => ∃ k : Nat, k ≤ cs.length ∧ i = .int .i64 k ∧ Hid (∀ (i : Nat) c, i < k → cs[i]? = some c → c.name.size ≤ 1000) ∧ Hid (Below w.heap.size w wr)) (fun i _ => cs.length - (intOf i).toNat)
      case atStart => exact ⟨0, Nat.zero_le _, rfl, (fun i c hi => by omega : ∀ (i : Nat) c, i < 0 → cs[i]? = some c → c.name.size ≤ 1000), Below.refl _ _⟩
      case round =>
        obtain ⟨k, hk, rfl, HG, HB⟩ := hrel
        have hsz := HB.out.size
        by_cases hlt : k < cs.length
        · obtain ⟨c, hc⟩ : ∃ c, cs[k]? = some c := ⟨cs[k], List.getElem?_eq_getElem hlt⟩
          obtain ⟨b', off', hA', hbl', c0, c1, c2, c3⟩ := HC.out k c hc
          subst hA'
          have d0 := (HB.out.cell (p := ⟨b', off' + k * 4, none⟩) hbl').trans c0
          have d1 := (HB.out.cell (p := ⟨b', off' + k * 4 + 1, none⟩) hbl').trans c1
          have d2 := (HB.out.cell (p := ⟨b', off' + k * 4 + 2, none⟩) hbl').trans c2
          have d3 := (HB.out.cell (p := ⟨b', off' + k * 4 + 3, none⟩) hbl').trans c3
          have l2 : b' < wr.heap.size := by omega
          clear c0 c1 c2 c3
          have HCk := Lib.hid hc; clear hc
          by_cases hn : 1000 < c.name.size
          · have hn' : (1000 : Int) < (c.name.size : Int) := by omega
            go_wp2
            go_ret
            exact ⟨true, rfl, (fun h => by cases h), HB.out.alloc (by omega) _⟩
          · have hn' : ¬ (1000 : Int) < (c.name.size : Int) := by omega
            go_wp2
            go_roundw
            case rel =>
              refine ⟨k + 1, by omega, by go_num, ?_, HB.out.alloc (by omega) _⟩
              intro i c' hi hc'
              by_cases e : i = k
              · subst e
                have := HCk.out.symm.trans hc'
                cases this
                omega
              · exact HG.out i c' (by omega) hc'
            case measure => simp [intOf]; omega
        · obtain rfl : k = cs.length := by omega
          have HGC : Hid (∀ (i : Nat) c, cs[i]? = some c → c.name.size ≤ 1000) := (fun i c hc => HG.out i c (by
            rcases Nat.lt_or_ge i cs.length with h | h
            · exact h
            · rw [List.getElem?_eq_none h] at hc; cases hc) hc : ∀ (i : Nat) c, cs[i]? = some c → c.name.size ≤ 1000)
          obtain ⟨wo, rfl⟩ : ∃ wo : World, wo = wr := ⟨_, rfl⟩
          go_wp2
          go_loopw [30] (fun i wr => ∃ k : Nat, k ≤ vs.length ∧ i = .int .i64 k ∧ Hid (Below w.heap.size w wr)) (fun i _ => vs.length - (intOf i).toNat)
          case atStart => exact ⟨0, Nat.zero_le _, rfl, HB⟩
          case round =>
            obtain ⟨k, hk, rfl, HB2⟩ := hrel
            have hsz2 := HB2.out.size
            by_cases hlt : k < vs.length
            · obtain ⟨v, hv⟩ : ∃ v, vs[k]? = some v := ⟨vs[k], List.getElem?_eq_getElem hlt⟩
              obtain ⟨b', off', hA', hbl', c0, c1, c2⟩ := HV.out k v hv
              subst hA'
              have d0 := (HB2.out.cell (p := ⟨b', off' + k * 3, none⟩) hbl').trans c0
              have d1 := (HB2.out.cell (p := ⟨b', off' + k * 3 + 1, none⟩) hbl').trans c1
              have d2 := (HB2.out.cell (p := ⟨b', off' + k * 3 + 2, none⟩) hbl').trans c2
              have l2 : b' < wr.heap.size := by omega
              clear c0 c1 c2
              have HVk := Lib.hid hv; clear hv
              by_cases hn : 1000 < v.s.size
              · have hn' : (1000 : Int) < (v.s.size : Int) := by omega
                go_wp2
                go_ret
                exact ⟨true, rfl, (fun h => by cases h), HB2.out.alloc (by omega) _⟩
              · have hn' : ¬ (1000 : Int) < (v.s.size : Int) := by omega
                go_wp2
                go_roundw
                case rel => exact ⟨k + 1, by omega, by go_num, HB2.out.alloc (by omega) _⟩
                case measure => simp [intOf]; omega
            · go_wp2
              go_ret
              exact ⟨false, rfl, fun _ => ⟨by omega, by omega, HGC.out⟩, HB2.out⟩

set_option maxHeartbeats 2000000 in
theorem refFit_any (A B : Option Addr) (cc cv : Nat) (cs : List Col) (vs : List Val) (w : World) (hc : ReadsC w A cs) (hv : ReadsV w B vs) (hcl : cs.length ≤ 50) (hvl : vs.length ≤ 50) :
    Calls Try.prog 11 #[.slice A cs.length cc, .slice B vs.length cv] w fun e w' => e = .returned (.int .i64 (fitB cs vs)) ∧ Below w.heap.size w w' := by
  have hnot := @unary_not Try.prog
  by_cases heq : cs.length = vs.length
  · have h0 : ((cs.length : Int) != (vs.length : Int)) = false := by simp [heq]
    have HC := Lib.hid hc; have HV := Lib.hid hv; have HE := Lib.hid heq; clear hc hv heq
    go_enter Try.func11, Try.ntmps11
    go_wp2_with fail
    go_loopw [5] (fun i wr => ∃ k : Nat, k ≤ cs.length ∧ i = .int .i64 k ∧ Hid (fitTo cs vs k) ∧ Hid (Below w.heap.size w wr)) (fun i _ => cs.length - (intOf i).toNat)
    case atStart => exact ⟨0, Nat.zero_le _, rfl, (fun i c v hi => by omega : fitTo cs vs 0), Below.refl _ _⟩
    case round =>
      obtain ⟨k, hk, rfl, HG, HB⟩ := hrel
      have hsz := HB.out.size
      by_cases hlt : k < cs.length
      · have hkv : k < vs.length := by have := HE.out; omega
        obtain ⟨v, hv⟩ : ∃ v, vs[k]? = some v := ⟨vs[k], List.getElem?_eq_getElem hkv⟩
        obtain ⟨c, hc⟩ : ∃ c, cs[k]? = some c := ⟨cs[k], List.getElem?_eq_getElem hlt⟩
        obtain ⟨b, off, hA, hbl, v0, v1, v2⟩ := HV.out k v hv
        obtain ⟨b', off', hA', hbl', c0, c1, c2, c3⟩ := HC.out k c hc
        subst hA hA'
        have e0 := (HB.out.cell (p := ⟨b, off + k * 3, none⟩) hbl).trans v0
        have e1 := (HB.out.cell (p := ⟨b, off + k * 3 + 1, none⟩) hbl).trans v1
        have e2 := (HB.out.cell (p := ⟨b, off + k * 3 + 2, none⟩) hbl).trans v2
        have d1 := (HB.out.cell (p := ⟨b', off' + k * 4 + 1, none⟩) hbl').trans c1
        have d2 := (HB.out.cell (p := ⟨b', off' + k * 4 + 2, none⟩) hbl').trans c2
        have l1 : b < wr.heap.size := by omega
        have l2 : b' < wr.heap.size := by omega
        clear v0 v1 v2 c0 c1 c2 c3
        have HVk := Lib.hid hv; have HCk := Lib.hid hc; clear hv hc
        have hbel : Below w.heap.size w (wr.alloc (.cells #[.int .i64 v.kind, .int .i64 v.n, .string v.s] 37)) := HB.out.alloc (by omega) _
        have HBEL := Lib.hid hbel; clear hbel
        have stop : ∀ r, fitE c v = r → r ≠ 0 → fitB cs vs = r := by
          intro r hr hr0
          unfold fitB
          rw [if_pos HE.out, fitL_at cs vs k c v HCk.out HVk.out (by rw [hr]; exact hr0) HG.out, hr]
        have STOP := Lib.hid stop; clear stop
        have hR := fun w => refRight_any v.kind v.n v.s w
        cases hr : rightB v.kind v.n v.s with
        | false =>
          simp only [hr] at hR
          have hE : Hid (fitE c v = 15) := by show fitE c v = 15; unfold fitE; rw [hr, if_pos rfl]
          have HRT := Lib.hid hR; clear hR
          have HHR := Lib.hid hr; clear hr
          go_wp2_with (go_at_call 20; refine (HRT.out _).mono ?_; rintro e w' ⟨rfl, rfl⟩)
          go_ret
          exact ⟨by rw [STOP.out 15 hE.out (by omega)]; rfl, HBEL.out⟩
        | true =>
          simp only [hr] at hR
          have HRT := Lib.hid hR; clear hR
          have HHR := Lib.hid hr; clear hr
          by_cases hk0 : v.kind = 0
          · have f1 : (v.kind == 0) = true := by simp [hk0]
            cases hn : c.nn with
            | true =>
              have hE : Hid (fitE c v = 5) := by show fitE c v = 5; unfold fitE; rw [HHR.out, if_neg (by simp), if_pos hk0, if_pos hn]
              clear hk0
              rw [hn] at d2
              have HHN := Lib.hid hn; clear hn
              go_wp2_with (go_at_call 20; refine (HRT.out _).mono ?_; rintro e w' ⟨rfl, rfl⟩)
              go_ret
              exact ⟨by rw [STOP.out 5 hE.out (by omega)]; rfl, HBEL.out⟩
            | false =>
              have hE : Hid (fitE c v = 0) := by show fitE c v = 0; unfold fitE; rw [HHR.out, if_neg (by simp), if_pos hk0, if_neg (by simp [hn])]
              clear hk0
              rw [hn] at d2
              have HHN := Lib.hid hn; clear hn
              go_wp2_with (go_at_call 20; refine (HRT.out _).mono ?_; rintro e w' ⟨rfl, rfl⟩)
              go_roundw
              case rel => exact ⟨k + 1, by omega, by go_num, fitTo_succ HG.out HCk.out HVk.out hE.out, HBEL.out⟩
              case measure => simp [intOf]; omega
          · have f1 : (v.kind == 0) = false := by simp [hk0]
            by_cases ht : v.kind = c.typ
            · have hE : Hid (fitE c v = 0) := by show fitE c v = 0; unfold fitE; rw [HHR.out, if_neg (by simp), if_neg hk0, if_pos ht]
              have f3 : (v.kind != c.typ) = false := by simp [ht]
              clear hk0 ht
              go_wp2_with (go_at_call 20; refine (HRT.out _).mono ?_; rintro e w' ⟨rfl, rfl⟩)
              go_quiet (fail)
              go_wp2_with fail
              go_roundw
              case rel => exact ⟨k + 1, by omega, by go_num, fitTo_succ HG.out HCk.out HVk.out hE.out, below_drewN HBEL.out _⟩
              case measure => simp [intOf]; omega
            · have hE : Hid (fitE c v = 4) := by show fitE c v = 4; unfold fitE; rw [HHR.out, if_neg (by simp), if_neg hk0, if_neg ht]
              have f3 : (v.kind != c.typ) = true := by simp [ht]
              clear hk0 ht
              go_wp2_with (go_at_call 20; refine (HRT.out _).mono ?_; rintro e w' ⟨rfl, rfl⟩)
              go_quiet (fail)
              go_wp2_with fail
              go_ret
              exact ⟨by rw [STOP.out 4 hE.out (by omega)]; rfl, below_drewN HBEL.out _⟩
      · obtain rfl : k = cs.length := by omega
        have hfin : Hid (fitB cs vs = 0) := by
          show fitB cs vs = 0
          unfold fitB
          rw [if_pos HE.out]
          exact fitL_all cs vs fun i c v h1 h2 => HG.out i c v (by
            rcases Nat.lt_or_ge i cs.length with h | h
            · exact h
            · rw [List.getElem?_eq_none h] at h1; cases h1) h1 h2
        go_wp2_with fail
        go_ret
        exact ⟨by rw [hfin.out]; rfl, HB.out⟩
  · have h0 : ((cs.length : Int) != (vs.length : Int)) = true := by simp; omega
    have hf : Hid (fitB cs vs = 15) := by show fitB cs vs = 15; unfold fitB; rw [if_neg heq]
    clear heq
    go_enter Try.func11, Try.ntmps11
    go_wp2_with fail
    go_ret
    exact ⟨by rw [hf.out]; rfl, Below.refl _ _⟩

theorem schemaFits_walk {H : Type} {enc : TypeId × Value → H} {sp0 sp1 : Nat → Bool} {hd0 hd1 : Bool} {d0 d1 : DataW H} {p0 p1 : List MemPlace} {b0 b1 : Nat} (v0 v1 : Value) (w : World)
    (hv0 : Value.okWide Try.prog w .any b0 24 v0) (h0 : DataW.Trod enc Try.prog w 0 sp0 hd0 24 v0 d0 p0)
    (hv1 : Value.okWide Try.prog w .any b1 25 v1) (h1 : DataW.Trod enc Try.prog w 0 sp1 hd1 25 v1 d1 p1) :
    Calls Try.prog 4 #[v0, v1] w fun e w' => e = .returned (.bool true) ∧ Below w.heap.size w w' := by
  obtain ⟨A, cc, cs, rfl, hc⟩ := open_cols hv0 h0
  obtain ⟨B, cv, vs, rfl, hv⟩ := open_vals hv1 h1
  clear hv0 h0 hv1 h1
  have hnot := @unary_not Try.prog
  have HC := Lib.hid hc; have HV := Lib.hid hv; clear hc hv
  go_enter Try.func4, Try.ntmps4
  go_wp2_with (go_at_call 6; refine (awake_calls _).mono ?_; rintro e w1 ⟨rfl, hb1⟩)
  have HB1 := Lib.hid hb1; clear hb1
  refine (great_any A B cc cv cs vs w1 (HC.out.below HB1.out) (HV.out.below HB1.out)).mono ?_
  rintro e w2 ⟨g, rfl, hg, hb2⟩
  have z1 := HB1.out.size
  have HB2 := Lib.hid (HB1.out.trans (hb2.mono (by omega))); clear hb2
  have HG := Lib.hid hg; clear hg
  cases g with
  | true =>
    go_wp2_with fail
    go_ret
    exact ⟨by simp, HB2.out⟩
  | false =>
    have hl1 := (HG.out rfl).1
    have hl2 := (HG.out rfl).2.1
    go_wp2_with fail
    refine (fit_any A B cc cv cs vs w2 (HC.out.below HB2.out) (HV.out.below HB2.out) hl1 hl2).mono ?_
    rintro e w3 ⟨rfl, hb3⟩
    have z2 := HB2.out.size
    have HB3 := Lib.hid (HB2.out.trans (hb3.mono (by omega))); clear hb3
    go_wp2_with fail
    refine (refFit_any A B cc cv cs vs w3 (HC.out.below HB3.out) (HV.out.below HB3.out) hl1 hl2).mono ?_
    rintro e w4 ⟨rfl, hb4⟩
    have z3 := HB3.out.size
    have HB4 := Lib.hid (HB3.out.trans (hb4.mono (by omega))); clear hb4
    go_wp2_with fail
    go_ret
    exact ⟨by simp, HB4.out⟩
end Go.Proofs.Ytdkdjdlndcihmaa
