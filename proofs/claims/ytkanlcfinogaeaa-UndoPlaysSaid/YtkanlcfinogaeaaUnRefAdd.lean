/-
  The reference's log: Add, Save.
-/
import Derived.Test.YtkanlcfinogaeaaUnRef
namespace Go.Proofs.Ytkanlcfinogaeaa
open Go.RowKit
set_option linter.unusedVariables false
set_option linter.unusedSimpArgs false

theorem grown_refl (w : World) (row : Option Nat) : w.grownBy w row := ⟨rfl, rfl, rfl, Nat.le_refl _, fun _ _ _ => rfl⟩
/-- 'append(v, row...)' in a region that draws its order. -/
theorem reg_copy {T e : TypeId} {z : Value} {size bytes : Nat} {i0 : TypeInfo} (E : Elt T e z size bytes i0) {w : World} {base n m c : Nat} {v : Value} {A : Option Addr} {xs news : List Value} {ops : Array Oper} {o : Oper} {x : Act} {K : Act → World → Prop} {Q : Exit → Act → World → Prop} {Z : Prop} (hgd : o.guard = none) (s t : Operand)
    (ho : o.op = .call { callee := .builtin .append, args := #[s, t], argTypes := #[T, T] }) (hown : w.ownsRow base e size v n xs) (hs : x.eval s = v) (ht : x.eval t = .slice A m c)
    (hl : news.length = m * size) (hc : Src w A m c news) (h1 : ∀ u ∈ news, u.oneCell' = true) (hn : n ≤ 1000000 ∧ m ≤ 1000000) (hbase : base ≤ w.heap.size)
    (hK : ∀ A' c' w2, w2.ownsRow base e size (.slice A' (n + m) c') (n + m) (xs ++ news) → w.grownBy w2 v.ownBlock → K (x.put o.dst (.slice A' (n + m) c')) w2) :
    if Region.wanted o (yielded ops x.tmps) = true then Oper.wp Try.prog o x w K Q else Z := by
  have hw : Region.wanted o (yielded ops x.tmps) = true := by simp [Region.wanted, hgd]
  rw [if_pos hw]
  rcases hc with ⟨rfl, rfl, rfl⟩ | ⟨ad, rfl, hc⟩
  · have hx0 : news = [] := List.eq_nil_of_length_eq_zero (by simpa using hl)
    subst hx0
    obtain ⟨A', c', rfl⟩ := own_form hown
    unfold Oper.wp execOp
    simp only [ho, resolve, invoke, builtin, Sem.run_bind, Sem.run_pure, Result.andThen_ok, List.map_toArray, List.map_cons, List.map_nil, hs, ht, gapp_nil E hown]
    exact hK A' c' w (by rw [List.append_nil]; exact hown) (grown_refl _ _)
  · have hbytes : (n + m) * bytes ≤ 2000000 * 1000 := Nat.mul_le_mul (by omega) E.small
    refine wp_append_own w s t T ho base e i0 z size bytes E.und E.info E.zero E.hsize E.hbytes E.zs E.pos v n xs hs hown ad m c news ht hl hc h1 (by simp only [maxLen]; omega) (by omega) hbase ?_
    intro v' w2 ho2 hg _
    obtain ⟨A', c', rfl⟩ := own_form ho2
    exact hK A' c' w2 ho2 hg
theorem RRep.ne {base r : Nat} {S : RLS} {J : List ItI} {lv : Value} {w : World} (R : RRep base r S J lv w) : ∀ k, lv.ownBlock = some k → k ≠ r := fun k hk e => owns_ne R.lown R.blk (by decide) (by rw [← e]; exact hk.symm)
/-- The items are set: the new row lies in new memory. -/
theorem RRep.lset {base r : Nat} {S : RLS} {J J' : List ItI} {lv lv' : Value} {w w' : World} (R : RRep base r S J lv w) (hb : Below w.heap.size w w') (ho : w'.ownsRow base 67 7 lv' J'.length (jcells J')) (hJ : ∀ y ∈ J', y.x.Rd base w') :
    RRep base r { S with items := J'.map ItI.abs } J' lv' (w'.setCell ⟨r, 1, none⟩ lv') ∧ Frm TR base w (w'.setCell ⟨r, 1, none⟩ lv') := by
  have hr := lt_of_block R.blk
  have hle := R.lo
  have hblk : w'.heap[r]? = _ := (hb.block r hr).trans R.blk
  have hne : ∀ k, lv'.ownBlock = some k → k ≠ r := fun k hk e => owns_ne ho hblk (by decide) (by rw [← e]; exact hk.symm)
  have hF : Frm TR base w' (w'.setCell ⟨r, 1, none⟩ lv') := Frm.setCell (T := TR) hblk rfl hle _ _
  exact ⟨⟨R.lo, blk_set hblk 1 _, owns_same ho fun k hk => Below.heap_setCell _ _ _ _ (hne k hk), rfl, fun y hy => (hJ y hy).frm hF (by unfold TR; decide) (Nat.le_refl _)⟩, (Frm.ofBelow hb (by omega)).trans hF⟩
theorem rowE (w : World) : (w.alloc (.cells #[] 67)).ownsRow w.heap.size 67 7 (.slice (some ⟨w.heap.size, 0, none⟩) 0 0) 0 [] := World.ownsRow_made w #[] 0 (Nat.le_refl _) (by simp [maxLen]) (by simp)

set_option maxHeartbeats 1000000 in
theorem rsave_any {base r : Nat} {S : RLS} {w1 : World} (h : RR base r S w1) (hl : S.items.length ≤ 100000) (s : ByteArray) :
    Calls Try.prog 12 #[.pointer (some ⟨r, 0, none⟩), .string s] w1 fun e w' => e = .returned (.tuple #[]) ∧ RR base r { S with items := S.items ++ [⟨true, s, ⟨0, 0, ⟨#[]⟩, [], []⟩⟩] } w' ∧ Frm TR base w1 w' := by
  obtain ⟨i0, ET⟩ := elt_T
  obtain ⟨J, lv, R⟩ := h
  obtain ⟨A, c, rfl⟩ := R.form
  obtain ⟨q0, q1, y0, y1, hlt⟩ := two_of_block R.blk
  have hJ := R.len
  have hJl : J.length ≤ 100000 := by omega
  have HSRC : Hid (Src w1 A J.length c (jcells J)) := Src.of R.lown
  have HJL := Lib.hid (jcells_len J)
  have HR := Lib.hid R
  have HN1 : Hid (∀ u ∈ (#[.bool true, .string s, .int .i64 0, .int .i64 0, .string ⟨#[]⟩, .slice none 0 0, .slice none 0 0] : Array Value).toList, u.oneCell' = true) := (by
    intro u hu
    simp at hu
    rcases hu with rfl | rfl | rfl | rfl | rfl | rfl | rfl <;> rfl : ∀ u ∈ (#[.bool true, .string s, .int .i64 0, .int .i64 0, .string ⟨#[]⟩, .slice none 0 0, .slice none 0 0] : Array Value).toList, u.oneCell' = true)
  clear R hJ
  go_enter Try.func12, Try.ntmps12
  go_wp2_with (first
    | (at_builtin; refine step_copy ET rfl _ _ rfl rfl (by simp) rfl HJL.out HSRC.out (jcells_one J) (by omega) ?_; intro A3 c3 w3 ho hb hnn; have HO3 := Lib.hid ho; have HB3 := Lib.hid hb; clear ho hb hnn)
    | (at_builtin; refine step_push ET (w := w3) rfl _ _ rfl HO3.out rfl #[.bool true, .string s, .int .i64 0, .int .i64 0, .string ⟨#[]⟩, .slice none 0 0, .slice none 0 0] rfl rfl rfl HN1.out (by omega) HB3.out.size ?_; intro A4 c4 w4 ho hg; have HOf := Lib.hid ho; have HBf : Hid (Below w1.heap.size w1 w4) := (HB3.out.alloc HB3.out.size _).grown hg (by have := HB3.out.size; simp; omega) (fun k hk => (HO3.out.lt k hk).1); clear ho hg; obtain ⟨z0, z1, z2, z3, zl⟩ := two_of_block ((HBf.out.block r hlt).trans HR.out.blk)))
  all_goals
    go_end0
    have hle1 := RR.le ⟨_, _, HR.out⟩
    have h := HR.out.lset (J' := J ++ [(⟨true, s, ⟨⟨0, 0, ⟨#[]⟩, [], []⟩, none, 0, none, 0⟩⟩ : ItI)]) (lv' := .slice A4 (J.length + 1) c4) HBf.out (by
      have h5 := owns_up HOf.out hle1
      rw [jcells_append, List.length_append]
      simpa [jcells, ItI.cells, Img.cells] using h5) (fun z hz => by
      rcases List.mem_append.1 hz with hz | hz
      · exact (HR.out.rd z hz).frm (T := TN) (Frm.ofBelow HBf.out (Nat.le_refl _)) (fun h => h) hle1
      · obtain rfl : z = ⟨true, s, ⟨⟨0, 0, ⟨#[]⟩, [], []⟩, none, 0, none, 0⟩⟩ := by simpa using hz
        exact ⟨RdV.nil _ _, RdV.nil _ _⟩)
    have hmap : (J ++ [(⟨true, s, ⟨⟨0, 0, ⟨#[]⟩, [], []⟩, none, 0, none, 0⟩⟩ : ItI)]).map ItI.abs = S.items ++ [(ItI.abs ⟨true, s, ⟨⟨0, 0, ⟨#[]⟩, [], []⟩, none, 0, none, 0⟩⟩)] := by rw [List.map_append, HR.out.abs]; rfl
    rw [hmap] at h
    exact ⟨rfl, ⟨_, _, h.1⟩, h.2⟩

theorem radd_full {base r : Nat} {S : RLS} {w : World} (h : RR base r S w) (hl : S.items.length ≤ 100000) (hq : S.quota ≤ (cntE S.items : Int)) (a b : Int) (s : ByteArray) (A B : Option Addr) (n m c d : Nat) :
    Calls Try.prog 10 #[.pointer (some ⟨r, 0, none⟩), .agg #[.int .i64 a, .int .i64 b, .string s, .slice A n c, .slice B m d]] w fun e w' => e = .returned (.int .i64 10) ∧ Below w.heap.size w w' := by
  have HU := Lib.hid (h.below ((Below.refl _ _).alloc (Nat.le_refl _) (.cells #[.int .i64 a, .int .i64 b, .string s, .slice A n c, .slice B m d] 40)))
  obtain ⟨J, lv, R⟩ := h
  obtain ⟨q0, q1, y0, y1, hlt⟩ := two_of_block R.blk
  have hcl := cntE_le S.items
  clear R
  go_enter Try.func10, Try.ntmps10
  go_wp2_with fail
  go_quiet ((go_at_call 20; exact Calls.quiet_of ((rlen_any (HU.out.drewN _) hl).mono fun e w' h => ⟨h.1, 0, h.2.symm⟩)))
  go_wp2_with fail
  go_ret
  exact ⟨rfl, below_drewN ((Below.refl _ _).alloc (Nat.le_refl _) _) _⟩

set_option maxHeartbeats 1000000 in
theorem radd_any {base r : Nat} {S : RLS} {w : World} (h : RR base r S w) (hl : S.items.length ≤ 100000) (hq : (cntE S.items : Int) < S.quota) (x : Img) (hx : x.Rd base w) :
    Calls Try.prog 10 #[.pointer (some ⟨r, 0, none⟩), .agg #[.int .i64 x.e.kind, .int .i64 x.e.id, .string x.e.table, .slice x.oa x.e.old.length x.oc, .slice x.na x.e.new.length x.nc]] w fun e w' => e = .returned (.int .i64 0) ∧ RR base r { S with items := S.items ++ [⟨false, ⟨#[]⟩, x.e⟩] } w' ∧ Frm TR base w w' := by
  have hle := h.le
  have hcl := cntE_le S.items
  have HU := Lib.hid (h.below ((Below.refl _ _).alloc (Nat.le_refl _) (.cells x.cells.toArray 40)))
  obtain ⟨i0, ET⟩ := elt_T
  obtain ⟨J, lv, R⟩ := h
  obtain ⟨A, c, rfl⟩ := R.form
  obtain ⟨q0, q1, y0, y1, hlt⟩ := two_of_block R.blk
  have hJ := R.len
  have hJl : J.length ≤ 100000 := by omega
  have HR0 := Lib.hid R
  have HX0 := Lib.hid hx
  clear R hJ hx
  go_enter Try.func10, Try.ntmps10
  go_wp2_with fail
  go_quiet ((go_at_call 20; exact Calls.quiet_of ((rlen_any (HU.out.drewN _) hl).mono fun e w' h => ⟨h.1, 0, h.2.symm⟩)))
  go_wp2_with fail
  obtain ⟨w1, hw1⟩ : ∃ w1, w1 = (w.alloc (.cells #[.int .i64 x.e.kind, .int .i64 x.e.id, .string x.e.table, .slice x.oa x.e.old.length x.oc, .slice x.na x.e.new.length x.nc] 40)).drewN nq := ⟨_, rfl⟩
  rw [← hw1]
  have hb1 : Below w.heap.size w w1 := by rw [hw1]; exact below_drewN ((Below.refl _ _).alloc (Nat.le_refl _) _) nq
  have hk1 : w1.heap[w.heap.size]? = some (.cells #[.int .i64 x.e.kind, .int .i64 x.e.id, .string x.e.table, .slice x.oa x.e.old.length x.oc, .slice x.na x.e.new.length x.nc] 40) := by rw [hw1]; exact heap_alloc_new _ _
  have hr1 : RRep base r S J (.slice A J.length c) w1 := HR0.out.frm (T := TN) (Frm.ofBelow hb1 (Nat.le_refl _)) hle (fun h => h) (fun h => h) (fun h => h)
  have HX1 := Lib.hid (HX0.out.frm (T := TN) (Frm.ofBelow hb1 (Nat.le_refl _)) (fun h => h) hle)
  have HSRC : Hid (Src w1 A J.length c (jcells J)) := Src.of hr1.lown
  have HJL := Lib.hid (jcells_len J)
  have HR := Lib.hid hr1
  have HB1 := Lib.hid hb1
  have HN1 := Lib.hid (item_one ⟨false, ⟨#[]⟩, x⟩)
  have hlt0 := hlt
  clear hw1 hb1 hr1 q0 q1 y0 y1 hlt HU
  obtain ⟨q0, q1, y0, y1, hlt⟩ := two_of_block HR.out.blk
  obtain ⟨b0, b1, b2, b3, b4, -, -, bl⟩ := five_of_block hk1
  have HKB := Lib.hid hk1
  clear hk1
  have HOa : Hid (World.ownsRow (w1.alloc (.cells #[] 67)).drew w1.heap.size 67 7 (.slice (some ⟨w1.heap.size, 0, none⟩) 0 0) 0 []) := (by
    have h := rowE w1
    skip
    exact h : World.ownsRow (w1.alloc (.cells #[] 67)).drew w1.heap.size 67 7 (.slice (some ⟨w1.heap.size, 0, none⟩) 0 0) 0 [])
  have HXa : Hid (Below w1.heap.size w1 (w1.alloc (.cells #[] 67)).drew) := (by
    refine below_drewN ?_ 1
    exact (Below.refl _ _).alloc (Nat.le_refl _) _ : Below w1.heap.size w1 (w1.alloc (.cells #[] 67)).drew)
  have HSa : Hid (Src (w1.alloc (.cells #[] 67)).drew A J.length c (jcells J)) := HSRC.out.below HXa.out (Nat.le_refl _)
  have HOb : Hid (World.ownsRow ((w1.alloc (.cells #[] 67)).alloc (.cells #[.bool false, .string ⟨#[]⟩, .int .i64 x.e.kind, .int .i64 x.e.id, .string x.e.table, .slice x.oa x.e.old.length x.oc, .slice x.na x.e.new.length x.nc] 67)).drew w1.heap.size 67 7 (.slice (some ⟨w1.heap.size, 0, none⟩) 0 0) 0 []) := (by
    have h := (rowE w1).alloc (Obj.cells #[.bool false, .string ⟨#[]⟩, .int .i64 x.e.kind, .int .i64 x.e.id, .string x.e.table, .slice x.oa x.e.old.length x.oc, .slice x.na x.e.new.length x.nc] 67)
    skip
    exact h : World.ownsRow ((w1.alloc (.cells #[] 67)).alloc (.cells #[.bool false, .string ⟨#[]⟩, .int .i64 x.e.kind, .int .i64 x.e.id, .string x.e.table, .slice x.oa x.e.old.length x.oc, .slice x.na x.e.new.length x.nc] 67)).drew w1.heap.size 67 7 (.slice (some ⟨w1.heap.size, 0, none⟩) 0 0) 0 [])
  have HXb : Hid (Below w1.heap.size w1 ((w1.alloc (.cells #[] 67)).alloc (.cells #[.bool false, .string ⟨#[]⟩, .int .i64 x.e.kind, .int .i64 x.e.id, .string x.e.table, .slice x.oa x.e.old.length x.oc, .slice x.na x.e.new.length x.nc] 67)).drew) := (by
    refine below_drewN ?_ 1
    exact ((Below.refl _ _).alloc (Nat.le_refl _) _).alloc (by simp) _ : Below w1.heap.size w1 ((w1.alloc (.cells #[] 67)).alloc (.cells #[.bool false, .string ⟨#[]⟩, .int .i64 x.e.kind, .int .i64 x.e.id, .string x.e.table, .slice x.oa x.e.old.length x.oc, .slice x.na x.e.new.length x.nc] 67)).drew)
  have HSb : Hid (Src ((w1.alloc (.cells #[] 67)).alloc (.cells #[.bool false, .string ⟨#[]⟩, .int .i64 x.e.kind, .int .i64 x.e.id, .string x.e.table, .slice x.oa x.e.old.length x.oc, .slice x.na x.e.new.length x.nc] 67)).drew A J.length c (jcells J)) := HSRC.out.below HXb.out (Nat.le_refl _)
  have HIb : Hid ((World.heap ((w1.alloc (.cells #[] 67)).alloc (.cells #[.bool false, .string ⟨#[]⟩, .int .i64 x.e.kind, .int .i64 x.e.id, .string x.e.table, .slice x.oa x.e.old.length x.oc, .slice x.na x.e.new.length x.nc] 67)).drew)[(w1.heap.size + 1)]? = some (.cells #[.bool false, .string ⟨#[]⟩, .int .i64 x.e.kind, .int .i64 x.e.id, .string x.e.table, .slice x.oa x.e.old.length x.oc, .slice x.na x.e.new.length x.nc] 67)) := (by
    have h := heap_alloc_new (w1.alloc (.cells #[] 67)) (.cells #[.bool false, .string ⟨#[]⟩, .int .i64 x.e.kind, .int .i64 x.e.id, .string x.e.table, .slice x.oa x.e.old.length x.oc, .slice x.na x.e.new.length x.nc] 67)
    rw [show (w1.alloc (.cells #[] 67)).heap.size = w1.heap.size + 1 from by simp] at h
    exact h : (World.heap ((w1.alloc (.cells #[] 67)).alloc (.cells #[.bool false, .string ⟨#[]⟩, .int .i64 x.e.kind, .int .i64 x.e.id, .string x.e.table, .slice x.oa x.e.old.length x.oc, .slice x.na x.e.new.length x.nc] 67)).drew)[(w1.heap.size + 1)]? = some (.cells #[.bool false, .string ⟨#[]⟩, .int .i64 x.e.kind, .int .i64 x.e.id, .string x.e.table, .slice x.oa x.e.old.length x.oc, .slice x.na x.e.new.length x.nc] 67))
  have HOc : Hid (World.ownsRow ((w1.alloc (.cells #[.bool false, .string ⟨#[]⟩, .int .i64 x.e.kind, .int .i64 x.e.id, .string x.e.table, .slice x.oa x.e.old.length x.oc, .slice x.na x.e.new.length x.nc] 67)).alloc (.cells #[] 67)).drew w1.heap.size 67 7 (.slice (some ⟨(w1.heap.size + 1), 0, none⟩) 0 0) 0 []) := (by
    have h := owns_up (base' := w1.heap.size) (rowE (w1.alloc (.cells #[.bool false, .string ⟨#[]⟩, .int .i64 x.e.kind, .int .i64 x.e.id, .string x.e.table, .slice x.oa x.e.old.length x.oc, .slice x.na x.e.new.length x.nc] 67))) (by simp)
    rw [show (w1.alloc (.cells #[.bool false, .string ⟨#[]⟩, .int .i64 x.e.kind, .int .i64 x.e.id, .string x.e.table, .slice x.oa x.e.old.length x.oc, .slice x.na x.e.new.length x.nc] 67)).heap.size = w1.heap.size + 1 from by simp] at h
    exact h : World.ownsRow ((w1.alloc (.cells #[.bool false, .string ⟨#[]⟩, .int .i64 x.e.kind, .int .i64 x.e.id, .string x.e.table, .slice x.oa x.e.old.length x.oc, .slice x.na x.e.new.length x.nc] 67)).alloc (.cells #[] 67)).drew w1.heap.size 67 7 (.slice (some ⟨(w1.heap.size + 1), 0, none⟩) 0 0) 0 [])
  have HXc : Hid (Below w1.heap.size w1 ((w1.alloc (.cells #[.bool false, .string ⟨#[]⟩, .int .i64 x.e.kind, .int .i64 x.e.id, .string x.e.table, .slice x.oa x.e.old.length x.oc, .slice x.na x.e.new.length x.nc] 67)).alloc (.cells #[] 67)).drew) := (by
    refine below_drewN ?_ 1
    exact ((Below.refl _ _).alloc (Nat.le_refl _) _).alloc (by simp) _ : Below w1.heap.size w1 ((w1.alloc (.cells #[.bool false, .string ⟨#[]⟩, .int .i64 x.e.kind, .int .i64 x.e.id, .string x.e.table, .slice x.oa x.e.old.length x.oc, .slice x.na x.e.new.length x.nc] 67)).alloc (.cells #[] 67)).drew)
  have HSc : Hid (Src ((w1.alloc (.cells #[.bool false, .string ⟨#[]⟩, .int .i64 x.e.kind, .int .i64 x.e.id, .string x.e.table, .slice x.oa x.e.old.length x.oc, .slice x.na x.e.new.length x.nc] 67)).alloc (.cells #[] 67)).drew A J.length c (jcells J)) := HSRC.out.below HXc.out (Nat.le_refl _)
  have HIc : Hid ((World.heap ((w1.alloc (.cells #[.bool false, .string ⟨#[]⟩, .int .i64 x.e.kind, .int .i64 x.e.id, .string x.e.table, .slice x.oa x.e.old.length x.oc, .slice x.na x.e.new.length x.nc] 67)).alloc (.cells #[] 67)).drew)[w1.heap.size]? = some (.cells #[.bool false, .string ⟨#[]⟩, .int .i64 x.e.kind, .int .i64 x.e.id, .string x.e.table, .slice x.oa x.e.old.length x.oc, .slice x.na x.e.new.length x.nc] 67)) := (by
    have h := blk_alloc (heap_alloc_new w1 (.cells #[.bool false, .string ⟨#[]⟩, .int .i64 x.e.kind, .int .i64 x.e.id, .string x.e.table, .slice x.oa x.e.old.length x.oc, .slice x.na x.e.new.length x.nc] 67)) (.cells #[] 67)
    skip
    exact h : (World.heap ((w1.alloc (.cells #[.bool false, .string ⟨#[]⟩, .int .i64 x.e.kind, .int .i64 x.e.id, .string x.e.table, .slice x.oa x.e.old.length x.oc, .slice x.na x.e.new.length x.nc] 67)).alloc (.cells #[] 67)).drew)[w1.heap.size]? = some (.cells #[.bool false, .string ⟨#[]⟩, .int .i64 x.e.kind, .int .i64 x.e.id, .string x.e.table, .slice x.oa x.e.old.length x.oc, .slice x.na x.e.new.length x.nc] 67))
  go_region_law
    (first
      | (refine reg_copy ET (w := (w1.alloc (.cells #[] 67)).drew) rfl _ _ rfl HOa.out rfl rfl HJL.out HSa.out (jcells_one _) ⟨by omega, by omega⟩ HXa.out.size ?_; intro A3 c3 w3 ho hg; simp only [Nat.zero_add, List.nil_append] at ho; have HPa := Lib.hid ho; have HGa := Lib.hid hg; have HBa : Hid (Below w1.heap.size w1 w3) := HXa.out.grown hg HXa.out.size (fun k hk => (HOa.out.lt k hk).1); clear ho hg; obtain ⟨e0, e1, e2, e3, e4, -, -, -⟩ := five_of_block ((HBa.out.block _ bl).trans HKB.out))
      | (refine reg_copy ET (w := ((w1.alloc (.cells #[] 67)).alloc (.cells #[.bool false, .string ⟨#[]⟩, .int .i64 x.e.kind, .int .i64 x.e.id, .string x.e.table, .slice x.oa x.e.old.length x.oc, .slice x.na x.e.new.length x.nc] 67)).drew) rfl _ _ rfl HOb.out rfl rfl HJL.out HSb.out (jcells_one _) ⟨by omega, by omega⟩ HXb.out.size ?_; intro A3 c3 w3 ho hg; simp only [Nat.zero_add, List.nil_append] at ho; have HPb := Lib.hid ho; have HGb := Lib.hid hg; have HBb : Hid (Below w1.heap.size w1 w3) := HXb.out.grown hg HXb.out.size (fun k hk => (HOb.out.lt k hk).1); clear ho hg; obtain ⟨e0, e1, e2, e3, e4, -, -, -⟩ := five_of_block ((HBb.out.block _ bl).trans HKB.out); have HQb := Lib.hid (blk_grown HIb.out HGb.out (fun e => Nat.ne_of_gt (Nat.lt_succ_self _) (Option.some.inj e))))
      | (refine reg_copy ET (w := ((w1.alloc (.cells #[.bool false, .string ⟨#[]⟩, .int .i64 x.e.kind, .int .i64 x.e.id, .string x.e.table, .slice x.oa x.e.old.length x.oc, .slice x.na x.e.new.length x.nc] 67)).alloc (.cells #[] 67)).drew) rfl _ _ rfl HOc.out rfl rfl HJL.out HSc.out (jcells_one _) ⟨by omega, by omega⟩ HXc.out.size ?_; intro A3 c3 w3 ho hg; simp only [Nat.zero_add, List.nil_append] at ho; have HPc := Lib.hid ho; have HGc := Lib.hid hg; have HBc : Hid (Below w1.heap.size w1 w3) := HXc.out.grown hg HXc.out.size (fun k hk => (HOc.out.lt k hk).1); clear ho hg; obtain ⟨e0, e1, e2, e3, e4, -, -, -⟩ := five_of_block ((HBc.out.block _ bl).trans HKB.out); have HQc := Lib.hid (blk_grown HIc.out HGc.out (fun e => Nat.ne_of_lt (Nat.lt_succ_self _) (Option.some.inj e))))
      | (refine reg_push ET (w := w3.alloc (.cells #[.bool false, .string ⟨#[]⟩, .int .i64 x.e.kind, .int .i64 x.e.id, .string x.e.table, .slice x.oa x.e.old.length x.oc, .slice x.na x.e.new.length x.nc] 67)) rfl _ _ rfl (HPa.out.alloc _) rfl #[.bool false, .string ⟨#[]⟩, .int .i64 x.e.kind, .int .i64 x.e.id, .string x.e.table, .slice x.oa x.e.old.length x.oc, .slice x.na x.e.new.length x.nc] rfl (heap_alloc_new _ _) rfl HN1.out (by omega) (by have := HBa.out.size; simp; omega) ?_; intro A4 c4 w4 ho hg; have HOf := Lib.hid ho; have HBf : Hid (Below w1.heap.size w1 w4) := (HBa.out.alloc HBa.out.size (Obj.cells #[.bool false, .string ⟨#[]⟩, .int .i64 x.e.kind, .int .i64 x.e.id, .string x.e.table, .slice x.oa x.e.old.length x.oc, .slice x.na x.e.new.length x.nc] 67)).grown hg ((HBa.out.alloc HBa.out.size (Obj.cells #[.bool false, .string ⟨#[]⟩, .int .i64 x.e.kind, .int .i64 x.e.id, .string x.e.table, .slice x.oa x.e.old.length x.oc, .slice x.na x.e.new.length x.nc] 67))).size (fun k hk => ((HPa.out.alloc (Obj.cells #[.bool false, .string ⟨#[]⟩, .int .i64 x.e.kind, .int .i64 x.e.id, .string x.e.table, .slice x.oa x.e.old.length x.oc, .slice x.na x.e.new.length x.nc] 67)).lt k hk).1); clear ho hg; obtain ⟨z0, z1, z2, z3, zl⟩ := two_of_block ((HBf.out.block r hlt).trans HR.out.blk))
      | (refine reg_push ET (w := w3) rfl _ _ rfl HPb.out rfl #[.bool false, .string ⟨#[]⟩, .int .i64 x.e.kind, .int .i64 x.e.id, .string x.e.table, .slice x.oa x.e.old.length x.oc, .slice x.na x.e.new.length x.nc] rfl HQb.out rfl HN1.out (by omega) HBb.out.size ?_; intro A4 c4 w4 ho hg; have HOf := Lib.hid ho; have HBf : Hid (Below w1.heap.size w1 w4) := HBb.out.grown hg (HBb.out).size (fun k hk => (HPb.out.lt k hk).1); clear ho hg; obtain ⟨z0, z1, z2, z3, zl⟩ := two_of_block ((HBf.out.block r hlt).trans HR.out.blk))
      | (refine reg_push ET (w := w3) rfl _ _ rfl HPc.out rfl #[.bool false, .string ⟨#[]⟩, .int .i64 x.e.kind, .int .i64 x.e.id, .string x.e.table, .slice x.oa x.e.old.length x.oc, .slice x.na x.e.new.length x.nc] rfl HQc.out rfl HN1.out (by omega) HBc.out.size ?_; intro A4 c4 w4 ho hg; have HOf := Lib.hid ho; have HBf : Hid (Below w1.heap.size w1 w4) := HBc.out.grown hg (HBc.out).size (fun k hk => (HPc.out.lt k hk).1); clear ho hg; obtain ⟨z0, z1, z2, z3, zl⟩ := two_of_block ((HBf.out.block r hlt).trans HR.out.blk)))
  all_goals
    go_wp2_with fail
    go_ret
    have hle1 := RR.le ⟨_, _, HR.out⟩
    have h := HR.out.lset (J' := J ++ [(⟨false, ⟨#[]⟩, x⟩ : ItI)]) (lv' := .slice A4 (J.length + 1) c4) HBf.out (by
      have h5 := owns_up HOf.out hle1
      rw [jcells_append, List.length_append]
      simpa [jcells, ItI.cells, Img.cells] using h5) (fun z hz => by
      rcases List.mem_append.1 hz with hz | hz
      · exact (HR.out.rd z hz).frm (T := TN) (Frm.ofBelow HBf.out (Nat.le_refl _)) (fun h => h) hle1
      · obtain rfl : z = ⟨false, ⟨#[]⟩, x⟩ := by simpa using hz
        exact HX1.out.frm (T := TN) (Frm.ofBelow HBf.out (Nat.le_refl _)) (fun h => h) hle1)
    have hmap : (J ++ [(⟨false, ⟨#[]⟩, x⟩ : ItI)]).map ItI.abs = S.items ++ [(ItI.abs ⟨false, ⟨#[]⟩, x⟩)] := by rw [List.map_append, HR.out.abs]; rfl
    rw [hmap] at h
    exact ⟨rfl, ⟨_, _, h.1⟩, (Frm.ofBelow HB1.out hle).trans h.2⟩
end Go.Proofs.Ytkanlcfinogaeaa
