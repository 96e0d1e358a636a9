/- Plain laws on the calendar: no program in sight. -/
import Derived.WalkKit
namespace Go.Proofs.Ytjkbhckidocclaa
namespace Cal

/-- Is y a leap year? -/
def leap (y : Int) : Bool := (y.tmod 4 == 0 && y.tmod 100 != 0) || y.tmod 400 == 0

/-- The days of a month. -/
def len (y m : Int) : Int := if m = 2 then (if leap y = true then 29 else 28) else if m = 4 ∨ m = 6 ∨ m = 9 ∨ m = 11 then 30 else 31

theorem len_bd (y m : Int) : 28 ≤ len y m ∧ len y m ≤ 31 := by
  unfold len; split
  · split <;> omega
  · split <;> omega

/-- The days of the first k months. -/
def cum (y : Int) : Nat → Int
  | 0 => 0
  | k + 1 => cum y k + len y ((k : Int) + 1)

theorem cum_bd (y : Int) (k : Nat) : 28 * k ≤ cum y k ∧ cum y k ≤ 31 * k := by
  induction k with
  | zero => simp [cum]
  | succ k ih => have := len_bd y ((k : Int) + 1); simp only [cum]; omega

theorem cum_mono (y : Int) (j k : Nat) (h : j ≤ k) : cum y j ≤ cum y k := by
  induction k with
  | zero => have : j = 0 := by omega
            subst this; exact Int.le_refl _
  | succ k ih =>
    by_cases hj : j = k + 1
    · subst hj; exact Int.le_refl _
    · have := ih (by omega); have := len_bd y ((k : Int) + 1); simp only [cum]; omega

/-- The days ahead of January 1 of a year from 1 on. -/
def jan (y : Int) : Int := 365 * (y - 1) + (y - 1) / 4 - (y - 1) / 100 + (y - 1) / 400

/-- Is it a day of the calendar? -/
def ok (y m d : Int) : Bool := decide (1 ≤ y ∧ y ≤ 9999 ∧ 1 ≤ m ∧ m ≤ 12 ∧ 1 ≤ d ∧ d ≤ len y m)

/-- Its number. -/
def num (y m d : Int) : Int := jan y + cum y (m.toNat - 1) + d - 1 - 719162

theorem ok_iff (y m d : Int) : ok y m d = true ↔ 1 ≤ y ∧ y ≤ 9999 ∧ 1 ≤ m ∧ m ≤ 12 ∧ 1 ≤ d ∧ d ≤ len y m := by
  unfold ok; exact decide_eq_true_iff

theorem leap_pos (y : Int) (h : 0 ≤ y) : leap y = (decide (y % 4 = 0 ∧ ¬ y % 100 = 0) || decide (y % 400 = 0)) := by
  unfold leap
  rw [Int.tmod_eq_emod_of_nonneg h, Int.tmod_eq_emod_of_nonneg h, Int.tmod_eq_emod_of_nonneg h]
  rw [Bool.eq_iff_iff]
  simp

theorem cum12 (y : Int) : cum y 12 = if leap y = true then 366 else 365 := by
  simp only [cum, len]
  cases leap y <;> simp

theorem jan_succ (y : Int) (h : 1 ≤ y) : jan (y + 1) = jan y + cum y 12 := by
  rw [cum12, leap_pos y (by omega)]
  unfold jan
  by_cases h4 : y % 4 = 0 <;> by_cases h100 : y % 100 = 0 <;> by_cases h400 : y % 400 = 0 <;> simp [h4, h100, h400] <;> omega

theorem jan_mono (a b : Int) (_ : 1 ≤ a) (h : a ≤ b) : jan a ≤ jan b := by unfold jan; omega

theorem jan_bd (y : Int) (h : 1 ≤ y) (h2 : y ≤ 10000) : 0 ≤ jan y ∧ jan y ≤ 3652059 := by unfold jan; omega

end Cal
end Go.Proofs.Ytjkbhckidocclaa
