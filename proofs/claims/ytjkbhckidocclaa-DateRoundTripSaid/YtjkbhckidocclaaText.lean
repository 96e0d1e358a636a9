/- Plain laws on texts of dates: no program in sight. -/
import Derived.WalkKit
namespace Go.Proofs.Ytjkbhckidocclaa
namespace Tx

/-- The bytes of a string as numbers. -/
def bytes (s : ByteArray) : List Nat := s.data.toList.map UInt8.toNat

def dig (c : Nat) : Bool := decide (48 ≤ c ∧ c ≤ 57)

/-- Are all of them digits? -/
def digs (l : List Nat) : Bool := l.all dig

/-- The number of digits. -/
def val (l : List Nat) : Int := l.foldl (fun (a : Int) (c : Nat) => 10 * a + ((c : Int) - 48)) 0

theorem length_bytes (s : ByteArray) : (bytes s).length = s.size := by
  show (s.data.toList.map UInt8.toNat).length = s.data.size
  rw [List.length_map, Array.length_toList]

theorem bytes_get (s : ByteArray) (k : Nat) (h : k < s.size) : (bytes s).getD k 0 = s[k].toNat := by
  have h' : k < s.data.size := h
  have e : (bytes s)[k]? = some (s.data[k].toNat) := by
    show (s.data.toList.map UInt8.toNat)[k]? = _
    rw [List.getElem?_map, Array.getElem?_toList, Array.getElem?_eq_getElem h']; rfl
  rw [List.getD_eq_getElem?_getD, e]; rfl

theorem bytes_extract (s : ByteArray) (i j : Nat) : bytes (s.extract i j) = ((bytes s).drop i).take (j - i) := by
  show (s.extract i j).data.toList.map UInt8.toNat = ((s.data.toList.map UInt8.toNat).drop i).take (j - i)
  rw [ByteArray.data_extract, Array.toList_extract, List.extract_eq_take_drop, List.map_take, List.map_drop]

theorem dig_iff (c : Nat) : dig c = true ↔ 48 ≤ c ∧ c ≤ 57 := decide_eq_true_iff

theorem val_snoc (l : List Nat) (c : Nat) : val (l ++ [c]) = 10 * val l + ((c : Int) - 48) := by simp [val, List.foldl_append]

theorem digs_snoc (l : List Nat) (c : Nat) : digs (l ++ [c]) = (digs l && dig c) := by simp [digs]

theorem take_snoc (bs : List Nat) (k : Nat) (h : k < bs.length) : bs.take (k + 1) = bs.take k ++ [bs.getD k 0] := by
  rw [List.take_succ_eq_append_getElem h, List.getD_eq_getElem?_getD, List.getElem?_eq_getElem h]; rfl

theorem val_take_bd (l : List Nat) (k : Nat) (hk : k ≤ l.length) (h : digs (l.take k) = true) : 0 ≤ val (l.take k) ∧ val (l.take k) < 10 ^ k := by
  induction k with
  | zero => simp [val]
  | succ k ih =>
    rw [take_snoc l k (by omega), digs_snoc, Bool.and_eq_true] at h
    have hb := ih (by omega) h.1
    have hc := (dig_iff _).1 h.2
    rw [take_snoc l k (by omega), val_snoc, Int.pow_succ]
    omega

theorem digs_take_bad (l : List Nat) (k : Nat) (h : k < l.length) (hb : dig (l.getD k 0) = false) : digs l = false := by
  rw [Bool.eq_false_iff]
  intro hd
  have : dig (l.getD k 0) = true := by
    rw [List.getD_eq_getElem?_getD, List.getElem?_eq_getElem h]
    exact List.all_eq_true.1 hd _ (List.getElem_mem h)
  rw [this] at hb
  cases hb

theorem val_take_small (l : List Nat) (k : Nat) (hk : k ≤ l.length) (h10 : k ≤ 10) (h : digs (l.take k) = true) : 0 ≤ val (l.take k) ∧ val (l.take k) < 10000000000 := by
  have hb := val_take_bd l k hk h
  have e : (10 : Int) ^ k = ((10 ^ k : Nat) : Int) := (Int.natCast_pow 10 k).symm
  have hn : 10 ^ k ≤ 10 ^ 10 := Nat.pow_le_pow_right (by decide) h10
  have e10 : (10 : Nat) ^ 10 = 10000000000 := by decide
  rw [e] at hb
  omega

/-- Is the byte at place j of the form of a date? -/
def good (l : List Nat) (j : Nat) : Bool := if j = 4 ∨ j = 7 then decide (l.getD j 0 = 45) else dig (l.getD j 0)

/-- Are all bytes ahead of place k? -/
def okTo (l : List Nat) (k : Nat) : Prop := ∀ j, j < k → good l j = true

/-- The three numbers after k bytes. -/
def v0 (l : List Nat) (k : Nat) : Int := val (l.take (min k 4))
def v1 (l : List Nat) (k : Nat) : Int := val ((l.drop 5).take (min (k - 5) 2))
def v2 (l : List Nat) (k : Nat) : Int := val ((l.drop 8).take (k - 8))

theorem getD_drop (l : List Nat) (a j : Nat) : (l.drop a).getD j 0 = l.getD (a + j) 0 := by
  rw [List.getD_eq_getElem?_getD, List.getD_eq_getElem?_getD, List.getElem?_drop]

theorem okTo_succ {l : List Nat} {k : Nat} (h : okTo l k) (hg : good l k = true) : okTo l (k + 1) := by
  intro j hj
  by_cases e : j = k
  · subst e; exact hg
  · exact h j (by omega)

theorem digs_part {l : List Nat} {k a m : Nat} (hl : l.length = 10) (h : okTo l k) (hm : m = 0 ∨ a + m ≤ k) (ha : a + m ≤ 10) (hn : ∀ j, a ≤ j → j < a + m → j ≠ 4 ∧ j ≠ 7) : digs ((l.drop a).take m) = true := by
  refine List.all_eq_true.2 fun x hx => ?_
  obtain ⟨j, hj, rfl⟩ := List.getElem_of_mem hx
  have hj' : j < m := by have := hj; rw [List.length_take] at this; omega
  have hg := h (a + j) (by omega)
  obtain ⟨n4, n7⟩ := hn (a + j) (by omega) (by omega)
  unfold good at hg
  rw [if_neg (by omega)] at hg
  have e : ((l.drop a).take m)[j] = l.getD (a + j) 0 := by
    rw [List.getElem_take, List.getElem_drop, List.getD_eq_getElem?_getD, List.getElem?_eq_getElem (by omega)]; rfl
  rw [e]
  exact hg

theorem small_part {l : List Nat} {k a m : Nat} (hl : l.length = 10) (h : okTo l k) (hm : m = 0 ∨ a + m ≤ k) (ha : a + m ≤ 10) (hn : ∀ j, a ≤ j → j < a + m → j ≠ 4 ∧ j ≠ 7) :
    0 ≤ val ((l.drop a).take m) ∧ val ((l.drop a).take m) < 10000000000 :=
  val_take_small (l.drop a) m (by rw [List.length_drop]; omega) (by omega) (digs_part hl h hm ha hn)

theorem v0_bd {l : List Nat} {k : Nat} (hl : l.length = 10) (h : okTo l k) : 0 ≤ v0 l k ∧ v0 l k < 10000000000 := by
  have := small_part (a := 0) (m := min k 4) hl h (by omega) (by omega) (by intro j _ _; omega)
  simpa [v0] using this
theorem v1_bd {l : List Nat} {k : Nat} (hl : l.length = 10) (h : okTo l k) : 0 ≤ v1 l k ∧ v1 l k < 10000000000 :=
  small_part (a := 5) (m := min (k - 5) 2) hl h (by omega) (by omega) (by intro j _ _; omega)
theorem v2_bd {l : List Nat} {k : Nat} (hl : l.length = 10) (hk : k ≤ 10) (h : okTo l k) : 0 ≤ v2 l k ∧ v2 l k < 10000000000 :=
  small_part (a := 8) (m := k - 8) hl h (by omega) (by omega) (by intro j _ _; omega)

theorem v0_same (l : List Nat) (k : Nat) (h : 4 ≤ k) : v0 l (k + 1) = v0 l k := by
  unfold v0; rw [show min (k + 1) 4 = min k 4 from by omega]
theorem v1_same (l : List Nat) (k : Nat) (h : k < 5 ∨ 7 ≤ k) : v1 l (k + 1) = v1 l k := by
  unfold v1; rw [show min (k + 1 - 5) 2 = min (k - 5) 2 from by omega]
theorem v2_same (l : List Nat) (k : Nat) (h : k < 8) : v2 l (k + 1) = v2 l k := by
  unfold v2; rw [show k + 1 - 8 = k - 8 from by omega]
theorem v0_step (l : List Nat) (k : Nat) (hl : l.length = 10) (h : k < 4) : v0 l (k + 1) = 10 * v0 l k + ((l.getD k 0 : Int) - 48) := by
  unfold v0
  rw [show min (k + 1) 4 = k + 1 from by omega, show min k 4 = k from by omega, take_snoc l k (by omega), val_snoc]
theorem v1_step (l : List Nat) (k : Nat) (hl : l.length = 10) (h : 5 ≤ k) (h2 : k < 7) : v1 l (k + 1) = 10 * v1 l k + ((l.getD k 0 : Int) - 48) := by
  unfold v1
  rw [show min (k + 1 - 5) 2 = (k - 5) + 1 from by omega, show min (k - 5) 2 = k - 5 from by omega, take_snoc _ _ (by rw [List.length_drop]; omega), val_snoc, getD_drop, show 5 + (k - 5) = k from by omega]
theorem v2_step (l : List Nat) (k : Nat) (hl : l.length = 10) (h : 8 ≤ k) (h2 : k < 10) : v2 l (k + 1) = 10 * v2 l k + ((l.getD k 0 : Int) - 48) := by
  unfold v2
  rw [show k + 1 - 8 = (k - 8) + 1 from by omega, take_snoc _ _ (by rw [List.length_drop]; omega), val_snoc, getD_drop, show 8 + (k - 8) = k from by omega]

end Tx
end Go.Proofs.Ytjkbhckidocclaa
