/- Plain laws on bitmaps: no program in sight. -/
import Derived.WalkKit
import Derived.Laws.BitsAllLaws
namespace Go.Proofs.Ytkhnljblfbdkkaa
namespace Bm

/-- The bytes (as numbers) with bit i set. -/
def orAt (bs : List Nat) (i : Nat) : List Nat := bs.set (i / 8) (bs.getD (i / 8) 0 ||| 2 ^ (i % 8))

/-- The bytes after i elements of l have been packed into m bytes. -/
def packTo (m : Nat) (l : List Bool) : Nat → List Nat
  | 0 => List.replicate m 0
  | i + 1 => if l.getD i false then orAt (packTo m l i) i else packTo m l i

theorem length_packTo (m : Nat) (l : List Bool) (i : Nat) : (packTo m l i).length = m := by
  induction i with
  | zero => simp [packTo]
  | succ i ih => unfold packTo; split <;> simp [orAt, ih]

theorem lt_packTo (m : Nat) (l : List Bool) (i : Nat) : ∀ x ∈ packTo m l i, x < 256 := by
  induction i with
  | zero => intro x hx; simp [packTo] at hx; omega
  | succ i ih =>
    intro x hx
    unfold packTo at hx
    split at hx
    · unfold orAt at hx
      rcases List.mem_or_eq_of_mem_set hx with h | h
      · exact ih x h
      · subst h
        refine Nat.or_lt_two_pow (n := 8) ?_ ?_
        · by_cases hj : i / 8 < (packTo m l i).length
          · rw [List.getD_eq_getElem?_getD, List.getElem?_eq_getElem hj]; exact ih _ (List.getElem_mem hj)
          · rw [List.getD_eq_getElem?_getD, List.getElem?_eq_none (by omega)]; decide
        · exact Nat.pow_lt_pow_right (by decide) (by omega)
    · exact ih x hx

theorem getD_packTo_lt (m : Nat) (l : List Bool) (i j : Nat) : (packTo m l i).getD j 0 < 256 := by
  by_cases hj : j < (packTo m l i).length
  · rw [List.getD_eq_getElem?_getD, List.getElem?_eq_getElem hj]; exact lt_packTo m l i _ (List.getElem_mem hj)
  · rw [List.getD_eq_getElem?_getD, List.getElem?_eq_none (by omega)]; decide

/-- The bitmap of a list. -/
def pack (l : List Bool) : List Nat := packTo ((l.length + 7) / 8) l l.length

theorem or_walk (x j : Nat) (hx : x < 256) (hj : j < 8) : bits .or .u8 (x : Int) (2 ^ j % 256) = ((x ||| 2 ^ j : Nat) : Int) := by
  have h : 2 ^ j < 256 := Nat.pow_lt_pow_right (n := 8) (by decide) hj
  have e : ((2 : Int) ^ j) = ((2 ^ j : Nat) : Int) := (Int.natCast_pow 2 j).symm
  rw [e]
  generalize 2 ^ j = y at h
  have e2 : (y : Int) % 256 = (y : Int) := by omega
  rw [e2]
  exact u8_or_nat x y hx h

end Bm
end Go.Proofs.Ytkhnljblfbdkkaa
