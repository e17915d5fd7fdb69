/-
  A page as a list of bytes: its head, what is 0 still, its tail.
-/
import Derived.Test.YtnjdmaeoebihpaaPgTwo
import Derived.Lib.BufferWrite
namespace Go.Proofs.Ytnjdmaeoebihpaa
open Go.RowKit Go.Proofs.YtnjdmaeoebihpaaW.PrintWords Go.Proofs.YtnjdmaeoebihpaaW.PrintLast Go.Proofs.YtnjdmaeoebihpaaW.PrintMore
set_option linter.unusedVariables false
set_option linter.unusedSimpArgs false

def bc (l : List UInt8) : List Value := l.map fun b => Value.int .u8 b.toNat
theorem bc_len (l : List UInt8) : (bc l).length = l.length := by simp [bc]
theorem bc_append (a b : List UInt8) : bc (a ++ b) = bc a ++ bc b := by simp [bc]
def by2 (n : Nat) : List UInt8 := [UInt8.ofNat (n / 256), UInt8.ofNat (n % 256)]
theorem by2_len (n : Nat) : (by2 n).length = 2 := rfl
theorem byte_hi (n : Nat) (hn : n < 65536) : Value.int .u8 ((n : Int) / 256) = Value.int .u8 ((UInt8.ofNat (n / 256)).toNat : Int) := by
  congr 1
  rw [UInt8.toNat_ofNat', Nat.mod_eq_of_lt (by omega)]
  omega
theorem byte_lo (n : Nat) : Value.int .u8 ((n : Int) % 256) = Value.int .u8 ((UInt8.ofNat (n % 256)).toNat : Int) := by
  congr 1
  rw [UInt8.toNat_ofNat', Nat.mod_eq_of_lt (by omega)]
  omega
theorem set_mid {α : Type} (H : List α) (a b x y : α) (T : List α) : ((H ++ a :: b :: T).set H.length x).set (H.length + 1) y = H ++ x :: y :: T := by
  rw [List.set_append_right _ _ (Nat.le_refl _), List.set_append_right _ _ (Nat.le_succ _)]
  simp
/-- What is laid, what is 0 still, what lies behind. -/
def lay (H : List UInt8) (z : Nat) (T : List UInt8) : Array Value := (bc (H ++ (List.replicate z 0 ++ T))).toArray
theorem lay_size (H : List UInt8) (z : Nat) (T : List UInt8) : (lay H z T).size = H.length + z + T.length := by simp [lay, bc]; omega
theorem put2_lay (H : List UInt8) (z : Nat) (T : List UInt8) (n : Nat) (hn : n < 65536) : put2 (lay H (z + 2) T) H.length n = lay (H ++ by2 n) z T := by
  rw [put2, lay, byte_hi n hn, byte_lo n]
  rw [List.setIfInBounds_toArray, List.setIfInBounds_toArray]
  have e : bc (H ++ (List.replicate (z + 2) 0 ++ T)) = bc H ++ Value.int .u8 ((0 : UInt8).toNat : Int) :: Value.int .u8 ((0 : UInt8).toNat : Int) :: bc (List.replicate z 0 ++ T) := by
    rw [bc_append, show List.replicate (z + 2) (0 : UInt8) = 0 :: 0 :: List.replicate z 0 from rfl]
    rfl
  rw [e]
  have hl := bc_len H
  rw [← hl, set_mid]
  rw [lay, List.append_assoc, bc_append H]
  rfl
theorem put4_lay (H : List UInt8) (z : Nat) (T : List UInt8) (n : Nat) (hn : n < 65536) : put4 (lay H (z + 4) T) H.length n = lay (H ++ (by2 0 ++ by2 n)) z T := by
  rw [put4, show z + 4 = (z + 2) + 2 from rfl, put2_lay _ _ _ _ (by omega)]
  have e : H.length + 2 = (H ++ by2 0).length := by rw [List.length_append, by2_len]
  rw [e, put2_lay _ _ _ _ hn, List.append_assoc]
/-- A text laid at the end of what is 0 still. -/
theorem putS_lay (H : List UInt8) (z : Nat) (T : List UInt8) (s : ByteArray) : ((lay H (z + s.size) T).toList.take (H.length + z) ++ Lib.byteCells s.data.toList ++ (lay H (z + s.size) T).toList.drop (H.length + z + s.size)).toArray = lay H z (s.data.toList ++ T) := by
  have h1 : (lay H (z + s.size) T).toList = bc (H ++ List.replicate z 0) ++ (bc (List.replicate s.size 0) ++ bc T) := by
    rw [lay, List.toList_toArray, ← bc_append, ← bc_append, ← List.replicate_append_replicate]
    simp only [List.append_assoc]
  have h2 : (bc (H ++ List.replicate z 0)).length = H.length + z := by simp [bc]
  have h3 : (bc (List.replicate s.size (0 : UInt8))).length = s.size := by simp [bc]
  rw [h1, ← h2, List.take_left', List.drop_append, h2]
  · rw [List.drop_eq_nil_of_le (by rw [h2]; omega)]
    have e : H.length + z + s.size - (H.length + z) = s.size := by omega
    rw [e, List.drop_append, h3, Nat.sub_self, List.drop_eq_nil_of_le (Nat.le_of_eq h3)]
    rw [lay, show Lib.byteCells s.data.toList = bc s.data.toList from rfl]
    simp [bc_append]
  · rfl
def kid (ks : List Int) (j : Nat) : Nat := (ks.getD j 0).toNat
def kidsTo (ks : List Int) : Nat → List UInt8
  | 0 => []
  | j + 1 => kidsTo ks j ++ (by2 0 ++ by2 (kid ks j))
def tailTo (l : List ByteArray) : Nat → List UInt8
  | 0 => []
  | j + 1 => (rec l j).data.toList ++ tailTo l j
def slotsTo (l : List ByteArray) : Nat → List UInt8
  | 0 => []
  | j + 1 => slotsTo l j ++ (by2 (1024 - (tailTo l (j + 1)).length) ++ by2 (rec l j).size)
theorem kidsTo_len (ks : List Int) (j : Nat) : (kidsTo ks j).length = 4 * j := by
  induction j with
  | zero => rfl
  | succ j ih => simp only [kidsTo, List.length_append, by2_len, ih]; omega
theorem slotsTo_len (l : List ByteArray) (j : Nat) : (slotsTo l j).length = 4 * j := by
  induction j with
  | zero => rfl
  | succ j ih =>
    rw [show slotsTo l (j + 1) = slotsTo l j ++ (by2 (1024 - (tailTo l (j + 1)).length) ++ by2 (rec l j).size) from rfl, List.length_append, List.length_append, by2_len, by2_len, ih]
    omega
theorem data_len (s : ByteArray) : s.data.toList.length = s.size := Array.length_toList
theorem tailTo_weigh (l : List ByteArray) (j : Nat) (hj : j ≤ l.length) : (tailTo l j).length + 4 * j + weighN (l.drop j) = weighN l := by
  induction j with
  | zero => simp [tailTo]
  | succ j ih =>
    have h := ih (by omega)
    rw [drop_rec l j (by omega)] at h
    simp only [weighN] at h
    simp only [tailTo, List.length_append, data_len]
    omega
def headB (leaf : Bool) (l : List ByteArray) : List UInt8 := (if leaf = true then 1 else 2) :: by2 l.length
/-- The page. -/
def pageB (leaf : Bool) (l : List ByteArray) (ks : List Int) : List UInt8 :=
  (headB leaf l ++ kidsTo ks ks.length ++ slotsTo l l.length) ++ (List.replicate (1024 - sizeN l ks) 0 ++ tailTo l l.length)
theorem pageB_len (leaf : Bool) (l : List ByteArray) (ks : List Int) (h : sizeN l ks ≤ 1024) : (pageB leaf l ks).length = 1024 := by
  have h1 := tailTo_weigh l l.length (Nat.le_refl _)
  simp only [List.drop_length, weighN] at h1
  unfold sizeN at h
  simp only [pageB, List.length_append, headB, List.length_cons, by2_len, kidsTo_len, slotsTo_len, List.length_replicate]
  unfold sizeN
  omega
end Go.Proofs.Ytnjdmaeoebihpaa
