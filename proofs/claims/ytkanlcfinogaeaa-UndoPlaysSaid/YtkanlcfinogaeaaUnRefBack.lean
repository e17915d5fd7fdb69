/-
  The reference's log: Back.
-/
import Derived.Test.YtkanlcfinogaeaaUnRefToB
import Derived.Test.YtkanlcfinogaeaaUnBack
namespace Go.Proofs.Ytkanlcfinogaeaa
open Go.RowKit
set_option linter.unusedVariables false
set_option linter.unusedSimpArgs false

theorem rback_none {base r : Nat} {S : RLS} {w : World} (h : RR base r S w) (hl : S.items.length ≤ 100000) (name : ByteArray) (hno : ∀ (i : Nat) y, S.items[i]? = some y → y.save = true → (y.name.toList == name.toList) = false) :
    Calls Try.prog 14 #[.pointer (some ⟨r, 0, none⟩), .string name] w fun e w' => e = .returned (.tuple #[.slice none 0 0, .int .i64 14]) ∧ w = w' := by
  have hle := h.le
  obtain ⟨J, lv, R⟩ := h
  obtain ⟨A, c, rfl⟩ := R.form
  obtain ⟨q0, q1, y0, y1, hlt⟩ := two_of_block R.blk
  have hJ := R.len
  have hJl : J.length ≤ 100000 := by omega
  have HR := Lib.hid R
  have HNO := Lib.hid hno
  clear R hno hJ
  go_enter Try.func14, Try.ntmps14
  go_wp2_with fail
  go_loopg [6] J.length (fun g i wr => wr = w ∧ ∃ (jI : Int) (j : Nat), i = .int .i64 jI ∧ jI = (j : Int) - 1 ∧ j ≤ J.length ∧ g = j)
  case atStart => exact ⟨rfl, _, J.length, rfl, rfl, Nat.le_refl _, rfl⟩
  case round =>
    obtain ⟨rfl, jI, j, rfl, hj, hjl, hg⟩ := hrel
    by_cases hj0 : 0 ≤ jI
    · obtain ⟨q, rfl⟩ : ∃ q : Nat, jI = (q : Int) := ⟨jI.toNat, by omega⟩
      have hq : q < J.length := by omega
      obtain ⟨y, hy⟩ : ∃ y, J[q]? = some y := ⟨_, List.getElem?_eq_getElem hq⟩
      obtain ⟨gg, rfl, gl, c0, c1, -⟩ := HR.out.item hy
      have hit : S.items[q]? = some y.abs := by rw [← HR.out.abs, List.getElem?_map, hy]; rfl
      have hne := HNO.out q _ hit
      have hjq : j = q + 1 := by omega
      obtain ⟨sv, hsv⟩ : ∃ sv, sv = y.save := ⟨_, rfl⟩
      rw [← hsv] at c0
      have hne2 : sv = true → (y.name.toList == name.toList) = false := fun h => hne (hsv.symm.trans h)
      clear hit hy hj hne hsv
      cases sv with
      | true =>
        have hne3 := hne2 rfl
        clear hne2
        go_wp2_with fail
        go_roundg q
        case measure => omega
        case rel => exact ⟨rfl, _, q, by rfl, by omega, by omega, rfl⟩
      | false =>
        clear hne2
        go_wp2_with fail
        go_roundg q
        case measure => omega
        case rel => exact ⟨rfl, _, q, by rfl, by omega, by omega, rfl⟩
    · go_wp2_with fail
      go_ret2
      exact ⟨rfl, rfl⟩
/-- What Back leaves and answers, where place q holds the savepoint. -/
def RBackPost (base r : Nat) (S : RLS) (q : Nat) (w : World) (e : Ending) (w' : World) : Prop :=
  ∃ (B : Option Addr) (d : Nat) (K : List Img), e = .returned (.tuple #[.slice B K.length d, .int .i64 0]) ∧ K.map Img.e = outE S.items (q + 1) ∧ w'.ownsRow w.heap.size 40 5 (.slice B K.length d) K.length (icells K) ∧ (∀ x ∈ K, x.Rd base w') ∧ RR base r { S with items := S.items.take (q + 1) } w' ∧ Frm TR base w w'
/-- What the inner loop of Back has: places from j on are taken. -/
structure BkRel (S : RLS) (J : List ItI) (w : World) (j : Nat) (B : Option Addr) (d : Nat) (K : List Img) (wr : World) : Prop where
  out : wr.ownsRow w.heap.size 40 5 (.slice B K.length d) K.length (icells K)
  ents : K.map Img.e = outE S.items j
  mem : ∀ x ∈ K, ∃ y ∈ J, x = y.x
  low : Below w.heap.size w wr
set_option maxHeartbeats 1000000 in
theorem rback_some {base r : Nat} {S : RLS} {w : World} (h : RR base r S w) (hl : S.items.length ≤ 100000) (name : ByteArray) (p : Nat) (ys : Itm) (hp : S.items[p]? = some ys) (hps : ys.save = true) (hpn : (ys.name.toList == name.toList) = true) (hno : ∀ (i : Nat) y, p < i → S.items[i]? = some y → y.save = true → (y.name.toList == name.toList) = false) :
    Calls Try.prog 14 #[.pointer (some ⟨r, 0, none⟩), .string name] w (RBackPost base r S p w) := by
  have hle := h.le
  obtain ⟨i0, ER⟩ := elt_R
  obtain ⟨J, lv, R⟩ := h
  obtain ⟨A, c, rfl⟩ := R.form
  obtain ⟨q0, q1, y0, y1, hlt⟩ := two_of_block R.blk
  have hJ := R.len
  have hJl : J.length ≤ 100000 := by omega
  have hplen : p < J.length := by have := (List.getElem?_eq_some_iff.1 hp).1; omega
  have hcap : J.length ≤ c := by
    rcases R.lown.2 with ⟨h1, h2⟩ | ⟨g, cap, cur, h1, _, _, hnc, _⟩
    · injection h1 with a b d; omega
    · injection h1 with a b d; omega
  have HJ := Lib.hid hJ
  have HR := Lib.hid R
  have HNO := Lib.hid hno
  have HP := Lib.hid hp
  have HPS := Lib.hid hps
  have HPN := Lib.hid hpn
  clear R hno hJ hp hps hpn
  go_enter Try.func14, Try.ntmps14
  go_wp2_with fail
  go_loopg [6] J.length (fun g i wr => wr = w ∧ ∃ (jI : Int) (j : Nat), i = .int .i64 jI ∧ jI = (j : Int) - 1 ∧ p < j ∧ j ≤ J.length ∧ g = j)
  case atStart => exact ⟨rfl, _, J.length, rfl, rfl, hplen, Nat.le_refl _, rfl⟩
  case round =>
    obtain ⟨hw, jI, j, rfl, hj, hpj, hjl, hg⟩ := hrel
    have hw2 := hw.symm
    clear hw
    subst hw2
    obtain ⟨q, rfl⟩ : ∃ q : Nat, jI = (q : Int) := ⟨jI.toNat, by omega⟩
    have hq : q < J.length := by omega
    obtain ⟨y, hy⟩ : ∃ y, J[q]? = some y := ⟨_, List.getElem?_eq_getElem hq⟩
    obtain ⟨gg, rfl, gl, c0, c1, -⟩ := HR.out.item hy
    have hit : S.items[q]? = some y.abs := by rw [← HR.out.abs, List.getElem?_map, hy]; rfl
    have hjq : j = q + 1 := by omega
    by_cases hqp : q = p
    · subst hqp
      have hab : y.abs = ys := by have h2 := HP.out; rw [hit] at h2; injection h2
      have hs : y.save = true := by have := HPS.out; rw [← hab] at this; exact this
      have hn : (y.name.toList == name.toList) = true := by have := HPN.out; rw [← hab] at this; exact this
      rw [hs] at c0
      clear hit hy hj hs hab
      have hc1 : (q : Int) + 1 ≤ (c : Int) := by omega
      have hc2 : (0 : Int) ≤ (q : Int) + 1 := by omega
      have hc3 : IntKind.wrap .i64 ((q : Int) + 1) = (q : Int) + 1 := by rw [IntKind.wrap_i64]; omega
      have HST : Hid (BkRel S J w J.length (some ⟨w.heap.size, 0, none⟩) 0 [] (w.alloc (.cells #[] 40))) := ⟨World.ownsRow_made w #[] 0 (Nat.le_refl _) (by simp [maxLen]) (by simp), by rw [HJ.out, outE_end]; rfl, (fun x hx => by cases hx), (Below.refl _ _).alloc (Nat.le_refl _) _⟩
      go_wp2_with fail
      go_loopg [7, 8] J.length (fun g out i wr => ∃ (jI : Int) (j k : Nat) (B : Option Addr) (d : Nat) (K : List Img), i = .int .i64 jI ∧ jI = (j : Int) - 1 ∧ out = .slice B k d ∧ q + 1 ≤ j ∧ j ≤ J.length ∧ g = j ∧ k ≤ 100000 ∧ Hid (k = K.length) ∧ Hid (BkRel S J w j B d K wr))
      case atStart => exact ⟨_, J.length, 0, _, _, [], rfl, rfl, rfl, by omega, Nat.le_refl _, rfl, by omega, rfl, HST⟩
      case round =>
        clear HST
        obtain ⟨jI, j, k, B, d, K, rfl, hj, rfl, hqj, hjl, hg, hk, HK, HB⟩ := hrel
        obtain ⟨i, rfl⟩ : ∃ i : Nat, jI = (i : Int) := ⟨jI.toNat, by omega⟩
        have hji : j = i + 1 := by omega
        have hRw : RRep base r S J (.slice (some ⟨gg, 0, none⟩) J.length c) wr := HR.out.frm (T := TN) (Frm.ofBelow HB.out.low (Nat.le_refl _)) hle (fun h => h) (fun h => h) (fun h => h)
        have HRW := Lib.hid hRw
        obtain ⟨p0, p1, f0, f1, lz⟩ := two_of_block hRw.blk
        have hsz := HB.out.low.size
        clear hj
        by_cases hiq : q < i
        · obtain ⟨z, hz⟩ : ∃ z, J[i]? = some z := ⟨_, List.getElem?_eq_getElem (by omega)⟩
          obtain ⟨g', hgg, gl', d0, d1, d2, d3, d4, d5, d6⟩ := hRw.item hz
          obtain rfl : gg = g' := by injection hgg with hgg; injection hgg
          have hit : S.items[i]? = some z.abs := by rw [← HR.out.abs, List.getElem?_map, hz]; rfl
          have hnx := outE_next _ _ _ hit
          have HNX := Lib.hid hnx
          have HZM : Hid (z ∈ J) := List.mem_of_getElem? hz
          obtain ⟨sv, hsv⟩ : ∃ sv, sv = z.save := ⟨_, rfl⟩
          have HSV : Hid (z.abs.save = sv) := (by rw [hsv]; rfl : z.abs.save = sv)
          rw [← hsv] at d0
          clear hsv hnx hit hz hgg hRw
          cases sv with
          | true =>
            go_wp2_with fail
            go_roundg i
            case measure => omega
            case rel =>
              have e1 : outE S.items i = outE S.items (i + 1) := by rw [HNX.out, if_pos HSV.out, List.append_nil]
              subst hji
              exact ⟨_, i, k, B, d, K, by rfl, by omega, rfl, by omega, by omega, rfl, hk, HK, Lib.hid ⟨HB.out.out, by rw [e1]; exact HB.out.ents, HB.out.mem, HB.out.low⟩⟩
          | false =>
            have hown := HB.out.out
            rw [← HK.out] at hown
            have HOWN := Lib.hid hown
            have HN1 := Lib.hid (img_one' z.x)
            clear hown
            go_wp2_with (at_builtin; refine step_push ER (w := wr) rfl _ _ rfl HOWN.out rfl #[.int .i64 z.x.e.kind, .int .i64 z.x.e.id, .string z.x.e.table, .slice z.x.oa z.x.e.old.length z.x.oc, .slice z.x.na z.x.e.new.length z.x.nc] rfl rfl rfl HN1.out (by omega) hsz ?_; intro A5 c5' w5 ho hg5; have HO5 := Lib.hid ho; have HG5 := Lib.hid hg5; clear ho hg5)
            go_roundg i
            case measure => omega
            case rel =>
              subst hji
              have e1 : outE S.items i = outE S.items (i + 1) ++ [z.x.e] := by rw [HNX.out, if_neg (by rw [HSV.out]; simp)]; rfl
              have hout : w5.ownsRow w.heap.size 40 5 (.slice A5 (K ++ [z.x]).length c5') (K ++ [z.x]).length (icells (K ++ [z.x])) := by
                have h5 := HO5.out
                rw [icells_append, List.length_append]
                rw [HK.out] at h5
                simpa [icells, Img.cells] using h5
              have hents : (K ++ [z.x]).map Img.e = outE S.items i := by rw [e1, List.map_append, HB.out.ents]; rfl
              have hkl : (K ++ [z.x]).length ≤ 100000 := by
                have := congrArg List.length hents
                rw [List.length_map] at this
                rw [this]
                exact Nat.le_trans (outE_len _ _) hl
              exact ⟨_, i, k + 1, A5, c5', K ++ [z.x], by rfl, by omega, rfl, by omega, by omega, rfl, by rw [List.length_append] at hkl; have := HK.out; simp at hkl; omega, Lib.hid (by rw [List.length_append, HK.out]; rfl), Lib.hid ⟨hout, hents, fun x hx => by
                rcases List.mem_append.1 hx with hx | hx
                · exact HB.out.mem x hx
                · obtain rfl : x = z.x := by simpa using hx
                  exact ⟨z, HZM.out, rfl⟩, (HB.out.low.alloc hsz _).grown HG5.out (by simp; omega) (fun q hq => (HOWN.out.lt q hq).1)⟩⟩
        · obtain rfl : i = q := by omega
          go_wp2_with fail
          go_ret2
          subst hji
          have hF : Frm TR base wr (wr.setCell ⟨r, 1, none⟩ (.slice (some ⟨gg, 0, none⟩) (i + 1) c)) := Frm.setCell (T := TR) HRW.out.blk rfl HRW.out.lo _ _
          have hk2 := HK.out
          subst hk2
          exact ⟨B, d, K, rfl, HB.out.ents, hF.owns HB.out.out (by unfold TR; decide), fun x hx => by
            obtain ⟨y', hy', rfl⟩ := HB.out.mem x hx
            exact (HRW.out.rd y' hy').frm hF (by unfold TR; decide) (Nat.le_refl _), ⟨_, _, HRW.out.cut (i + 1) (by omega)⟩, (Frm.ofBelow HB.out.low hle).trans hF⟩
    · have hne := HNO.out q _ (by omega) hit
      obtain ⟨sv, hsv⟩ : ∃ sv, sv = y.save := ⟨_, rfl⟩
      rw [← hsv] at c0
      have hne2 : sv = true → (y.name.toList == name.toList) = false := fun h => hne (hsv.symm.trans h)
      clear hit hy hj hne hsv
      cases sv with
      | true =>
        have hne3 := hne2 rfl
        clear hne2
        go_wp2_with fail
        go_roundg q
        case measure => omega
        case rel => exact ⟨rfl, _, q, by rfl, by omega, by omega, by omega, rfl⟩
      | false =>
        clear hne2
        go_wp2_with fail
        go_roundg q
        case measure => omega
        case rel => exact ⟨rfl, _, q, by rfl, by omega, by omega, by omega, rfl⟩
end Go.Proofs.Ytkanlcfinogaeaa
