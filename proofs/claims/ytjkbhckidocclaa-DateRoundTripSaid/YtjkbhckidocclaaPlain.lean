/- Plain laws on the calendar: no program in sight. -/
import Derived.WalkKit
namespace Go.Proofs.Ytjkbhckidocclaa
namespace Cal

/-- Is y a leap year? -/
def leap (y : Int) : Bool := (y.tmod 4 == 0 && y.tmod 100 != 0) || y.tmod 400 == 0

/-- The days of a month. -/
def len (y m : Int) : Int := if m = 2 then (if leap y = true then 29 else 28) else if m = 4 ∨ m = 6 ∨ m = 9 ∨ m = 11 then 30 else 31

theorem len_bd (y m : Int) : 28 ≤ len y m ∧ len y m ≤ 31 := by
  unfold len; split
  · split <;> omega
  · split <;> omega

/-- The days of the first k months. -/
def cum (y : Int) : Nat → Int
  | 0 => 0
  | k + 1 => cum y k + len y ((k : Int) + 1)

theorem cum_bd (y : Int) (k : Nat) : 28 * k ≤ cum y k ∧ cum y k ≤ 31 * k := by
  induction k with
  | zero => simp [cum]
  | succ k ih => have := len_bd y ((k : Int) + 1); simp only [cum]; omega

theorem cum_mono (y : Int) (j k : Nat) (h : j ≤ k) : cum y j ≤ cum y k := by
  induction k with
  | zero => have : j = 0 := by omega
            subst this; exact Int.le_refl _
  | succ k ih =>
    by_cases hj : j = k + 1
    · subst hj; exact Int.le_refl _
    · have := ih (by omega); have := len_bd y ((k : Int) + 1); simp only [cum]; omega

/-- The days ahead of January 1 of a year from 1 on. -/
def jan (y : Int) : Int := 365 * (y - 1) + (y - 1) / 4 - (y - 1) / 100 + (y - 1) / 400

/-- Is it a day of the calendar? -/
def ok (y m d : Int) : Bool := decide (1 ≤ y ∧ y ≤ 9999 ∧ 1 ≤ m ∧ m ≤ 12 ∧ 1 ≤ d ∧ d ≤ len y m)

/-- Its number. -/
def num (y m d : Int) : Int := jan y + cum y (m.toNat - 1) + d - 1 - 719162

theorem ok_iff (y m d : Int) : ok y m d = true ↔ 1 ≤ y ∧ y ≤ 9999 ∧ 1 ≤ m ∧ m ≤ 12 ∧ 1 ≤ d ∧ d ≤ len y m := by
  unfold ok; exact decide_eq_true_iff

theorem leap_pos (y : Int) (h : 0 ≤ y) : leap y = (decide (y % 4 = 0 ∧ ¬ y % 100 = 0) || decide (y % 400 = 0)) := by
  unfold leap
  rw [Int.tmod_eq_emod_of_nonneg h, Int.tmod_eq_emod_of_nonneg h, Int.tmod_eq_emod_of_nonneg h]
  rw [Bool.eq_iff_iff]
  simp

theorem cum12 (y : Int) : cum y 12 = if leap y = true then 366 else 365 := by
  simp only [cum, len]
  cases leap y <;> simp

theorem jan_succ (y : Int) (h : 1 ≤ y) : jan (y + 1) = jan y + cum y 12 := by
  rw [cum12, leap_pos y (by omega)]
  unfold jan
  by_cases h4 : y % 4 = 0 <;> by_cases h100 : y % 100 = 0 <;> by_cases h400 : y % 400 = 0 <;> simp [h4, h100, h400] <;> omega

theorem jan_mono (a b : Int) (_ : 1 ≤ a) (h : a ≤ b) : jan a ≤ jan b := by unfold jan; omega

theorem jan_bd (y : Int) (h : 1 ≤ y) (h2 : y ≤ 10000) : 0 ≤ jan y ∧ jan y ≤ 3652059 := by unfold jan; omega

/-- Where a day lies in its year. -/
theorem in_year (y m d : Int) (h : ok y m d = true) : 0 ≤ cum y (m.toNat - 1) + d - 1 ∧ cum y (m.toNat - 1) + d - 1 < cum y m.toNat ∧ cum y m.toNat ≤ cum y 12 := by
  obtain ⟨_, _, m1, m2, d1, d2⟩ := (ok_iff y m d).1 h
  obtain ⟨k, rfl⟩ : ∃ k : Nat, m = (k : Int) + 1 := ⟨(m - 1).toNat, by omega⟩
  have e : ((k : Int) + 1).toNat = k + 1 := by omega
  rw [e, Nat.add_sub_cancel]
  have hb := cum_bd y k
  refine ⟨by omega, by simp only [cum]; omega, cum_mono y _ _ (by omega)⟩

theorem num_year (y m d : Int) (h : ok y m d = true) : jan y ≤ num y m d + 719162 ∧ num y m d + 719162 < jan (y + 1) := by
  have hy := ((ok_iff y m d).1 h).1
  have := in_year y m d h
  rw [jan_succ y hy]
  unfold num
  omega

theorem year_unique (y m d y' m' d' : Int) (h : ok y m d = true) (h' : ok y' m' d' = true) (e : num y m d ≤ num y' m' d') : y ≤ y' := by
  have hy := ((ok_iff y m d).1 h).1
  have hy' := ((ok_iff y' m' d').1 h').1
  have a := num_year y m d h
  have a' := num_year y' m' d' h'
  rcases Int.lt_or_le y' y with hlt | hle
  · have := jan_mono (y' + 1) y (by omega) (by omega); omega
  · exact hle

theorem month_unique (y m d m' d' : Int) (h : ok y m d = true) (h' : ok y m' d' = true) (e : num y m d ≤ num y m' d') : m ≤ m' := by
  obtain ⟨_, _, m1, m2, _, _⟩ := (ok_iff y m d).1 h
  obtain ⟨_, _, m1', m2', _, _⟩ := (ok_iff y m' d').1 h'
  have a := in_year y m d h
  have a' := in_year y m' d' h'
  rcases Int.lt_or_le m' m with hlt | hle
  · have := cum_mono y m'.toNat (m.toNat - 1) (by omega)
    have d1 := ((ok_iff y m d).1 h).2.2.2.2.1
    unfold num at e
    omega
  · exact hle

theorem unique (y m d y' m' d' : Int) (h : ok y m d = true) (h' : ok y' m' d' = true) (e : num y m d = num y' m' d') : y = y' ∧ m = m' ∧ d = d' := by
  have e1 := year_unique y m d y' m' d' h h' (by omega)
  have e2 := year_unique y' m' d' y m d h' h (by omega)
  have ey : y = y' := by omega
  subst ey
  have e3 := month_unique y m d m' d' h h' (by omega)
  have e4 := month_unique y m' d' m d h' h (by omega)
  have em : m = m' := by omega
  subst em
  refine ⟨rfl, rfl, ?_⟩
  unfold num at e
  omega

theorem num_bd (y m d : Int) (h : ok y m d = true) : -719162 ≤ num y m d ∧ num y m d ≤ 2932896 := by
  obtain ⟨y1, y2, _⟩ := (ok_iff y m d).1 h
  have a := num_year y m d h
  have b := jan_bd y y1 (by omega)
  have c := jan_bd (y + 1) (by omega) (by omega)
  omega

theorem quo4 (a b c k : Int) (_ : 0 ≤ k) (_ : k ≤ 3) : (400 * a + 100 * b + 4 * c + k) / 4 = 100 * a + 25 * b + c := by omega
theorem quo100 (a b c k : Int) (_ : 0 ≤ k) (_ : k ≤ 3) (_ : 0 ≤ c) (_ : c ≤ 24) : (400 * a + 100 * b + 4 * c + k) / 100 = 4 * a + b := by omega
theorem quo400 (a b c k : Int) (_ : 0 ≤ k) (_ : k ≤ 3) (_ : 0 ≤ c) (_ : c ≤ 24) (_ : 0 ≤ b) (_ : b ≤ 3) : (400 * a + 100 * b + 4 * c + k) / 400 = a := by omega

theorem jan_of (a b c k : Int) (k0 : 0 ≤ k) (k3 : k ≤ 3) (c0 : 0 ≤ c) (c24 : c ≤ 24) (b0 : 0 ≤ b) (b3 : b ≤ 3) :
    jan (1 + (400 * a + 100 * b + 4 * c + k)) = 146097 * a + 36524 * b + 1461 * c + 365 * k := by
  unfold jan
  rw [show 1 + (400 * a + 100 * b + 4 * c + k) - 1 = 400 * a + 100 * b + 4 * c + k from by omega, quo4 a b c k k0 k3, quo100 a b c k k0 k3 c0 c24, quo400 a b c k k0 k3 c0 c24 b0 b3]
  omega

theorem leap_of (a b c : Int) (a0 : 0 ≤ a) (c0 : 0 ≤ c) (c24 : c ≤ 24) (b0 : 0 ≤ b) (h : c = 24 → b = 3) : leap (1 + (400 * a + 100 * b + 4 * c + 3)) = true := by
  rw [leap_pos _ (by omega)]
  by_cases hc : c = 24
  · have hb := h hc
    subst hc hb
    have : (1 + (400 * a + 100 * 3 + 4 * 24 + 3)) % 400 = 0 := by omega
    rw [decide_eq_true this, Bool.or_true]
  · have h4 : (1 + (400 * a + 100 * b + 4 * c + 3)) % 4 = 0 := by omega
    have h100 : ¬ (1 + (400 * a + 100 * b + 4 * c + 3)) % 100 = 0 := by omega
    rw [decide_eq_true (And.intro h4 h100), Bool.true_or]

/-- The year of a number, as the program reckons it: with a, b, c, k cycles, centuries, fourths and years; N1, N2, N3, r: what is left each time. -/
theorem year_of (N a b c k N1 N2 N3 r : Int) (h0 : 0 ≤ N) (h1 : N ≤ 3652058) (ha : a = N / 146097) (hN1 : N1 = N % 146097) (hb : b = min (N1 / 36524) 3) (hN2 : N2 = N1 - b * 36524)
    (hc : c = N2 / 1461) (hN3 : N3 = N2 % 1461) (hk : k = min (N3 / 365) 3) (hr : r = N3 - k * 365) :
    1 ≤ 1 + 400 * a + 100 * b + 4 * c + k ∧ 1 + 400 * a + 100 * b + 4 * c + k ≤ 9999 ∧ jan (1 + 400 * a + 100 * b + 4 * c + k) + r = N ∧ 0 ≤ r ∧ r < cum (1 + 400 * a + 100 * b + 4 * c + k) 12 := by
  have A : N = 146097 * a + N1 ∧ 0 ≤ N1 ∧ N1 < 146097 ∧ 0 ≤ a := by subst ha hN1; omega
  clear ha hN1
  have B : 0 ≤ b ∧ b ≤ 3 ∧ N1 = 36524 * b + N2 ∧ 0 ≤ N2 ∧ (b < 3 → N2 < 36524) ∧ N2 ≤ 36524 := by subst hb hN2; omega
  clear hb hN2
  have C : 0 ≤ c ∧ c ≤ 24 ∧ N2 = 1461 * c + N3 ∧ 0 ≤ N3 ∧ N3 < 1461 := by subst hc hN3; omega
  clear hc hN3
  have D : 0 ≤ k ∧ k ≤ 3 ∧ N3 = 365 * k + r ∧ 0 ≤ r ∧ (k < 3 → r < 365) ∧ r ≤ 365 := by subst hk hr; omega
  clear hk hr
  obtain ⟨A1, A2, A3, A4⟩ := A
  obtain ⟨B1, B2, B3, B4, B5, B6⟩ := B
  obtain ⟨C1, C2, C3, C4, C5⟩ := C
  obtain ⟨D1, D2, D3, D4, D5, D6⟩ := D
  have ey : 1 + 400 * a + 100 * b + 4 * c + k = 1 + (400 * a + 100 * b + 4 * c + k) := by omega
  rw [ey]
  have hj := jan_of a b c k D1 D2 C1 C2 B1 B2
  have hjr : jan (1 + (400 * a + 100 * b + 4 * c + k)) + r = N := by rw [hj]; omega
  have hy1 : 1 ≤ 1 + (400 * a + 100 * b + 4 * c + k) := by omega
  have hL : k = 3 → r = 365 → leap (1 + (400 * a + 100 * b + 4 * c + k)) = true := by
    intro k3 r3
    subst k3
    exact leap_of a b c A4 C1 C2 B1 (by omega)
  clear hj
  generalize 1 + (400 * a + 100 * b + 4 * c + k) = y at hjr hy1 hL
  have hy2 : y ≤ 9999 := by
    rcases Int.lt_or_le y 10000 with h | h
    · omega
    · have := jan_mono 10000 y (by omega) h
      have e : jan 10000 = 3652059 := by decide
      omega
  refine ⟨hy1, hy2, hjr, D4, ?_⟩
  rw [cum12]
  by_cases hr : r = 365
  · have hk : k = 3 := by omega
    rw [if_pos (hL hk hr)]; omega
  · split <;> omega

/-- The stages of the reckoning, each with a name and its bounds. -/
theorem stages (N : Int) (h0 : 0 ≤ N) (h1 : N ≤ 3652058) : ∃ a N1 q b N2 c N3 p k r y : Int,
    N / 146097 = a ∧ N % 146097 = N1 ∧ N1 / 36524 = q ∧ b = min q 3 ∧ N1 - b * 36524 = N2 ∧ N2 / 1461 = c ∧ N2 % 1461 = N3 ∧ N3 / 365 = p ∧ k = min p 3 ∧ N3 - k * 365 = r ∧ y = 1 + 400 * a + 100 * b + 4 * c + k ∧
    (0 ≤ a ∧ a ≤ 24 ∧ 0 ≤ N1 ∧ N1 ≤ 146096 ∧ 0 ≤ q ∧ q ≤ 4 ∧ 0 ≤ N2 ∧ N2 ≤ 36524 ∧ 0 ≤ c ∧ c ≤ 24 ∧ 0 ≤ N3 ∧ N3 ≤ 1460 ∧ 0 ≤ p ∧ p ≤ 4) ∧
    1 ≤ y ∧ y ≤ 9999 ∧ jan y + r = N ∧ 0 ≤ r ∧ r < cum y 12 := by
  obtain ⟨a, ha⟩ : ∃ a, N / 146097 = a := ⟨_, rfl⟩
  obtain ⟨N1, hN1⟩ : ∃ a, N % 146097 = a := ⟨_, rfl⟩
  obtain ⟨q, hq⟩ : ∃ a, N1 / 36524 = a := ⟨_, rfl⟩
  obtain ⟨N2, hN2⟩ : ∃ a, N1 - min q 3 * 36524 = a := ⟨_, rfl⟩
  obtain ⟨c, hc⟩ : ∃ a, N2 / 1461 = a := ⟨_, rfl⟩
  obtain ⟨N3, hN3⟩ : ∃ a, N2 % 1461 = a := ⟨_, rfl⟩
  obtain ⟨p, hp⟩ : ∃ a, N3 / 365 = a := ⟨_, rfl⟩
  obtain ⟨r, hr⟩ : ∃ a, N3 - min p 3 * 365 = a := ⟨_, rfl⟩
  have Y := year_of N a (min q 3) c (min p 3) N1 N2 N3 r h0 h1 ha.symm hN1.symm (by rw [hq]) hN2.symm hc.symm hN3.symm (by rw [hp]) hr.symm
  have B1 : 0 ≤ a ∧ a ≤ 24 ∧ 0 ≤ N1 ∧ N1 ≤ 146096 := by omega
  have B2 : 0 ≤ q ∧ q ≤ 4 ∧ 0 ≤ N2 ∧ N2 ≤ 36524 := by clear Y ha hN1 hc hN3 hp hr; omega
  have B3 : 0 ≤ c ∧ c ≤ 24 ∧ 0 ≤ N3 ∧ N3 ≤ 1460 := by clear Y ha hN1 hq hN2 hp hr; omega
  have B4 : 0 ≤ p ∧ p ≤ 4 := by clear Y ha hN1 hq hN2 hc hN3 hr; omega
  exact ⟨a, N1, q, _, N2, c, N3, p, _, r, _, ha, hN1, hq, rfl, hN2, hc, hN3, hp, rfl, hr, rfl, ⟨B1.1, B1.2.1, B1.2.2.1, B1.2.2.2, B2.1, B2.2.1, B2.2.2.1, B2.2.2.2, B3.1, B3.2.1, B3.2.2.1, B3.2.2.2, B4.1, B4.2⟩, Y⟩

theorem first_guess (N : Int) (h0 : 0 ≤ N) (h1 : N ≤ 3652058) : (N / 366 < 1 → jan 1 ≤ N) ∧ (1 ≤ N / 366 → jan (N / 366) ≤ N ∧ N / 366 ≤ 9999) := by
  refine ⟨fun _ => ?_, fun h => ?_⟩
  · have : jan 1 = 0 := by decide
    omega
  · unfold jan; omega

/-- The day after a day. -/
theorem next_day (y m d : Int) (h : ok y m d = true) (hd : d < len y m) : ok y m (d + 1) = true ∧ num y m (d + 1) = num y m d + 1 := by
  obtain ⟨y1, y2, m1, m2, d1, d2⟩ := (ok_iff y m d).1 h
  exact ⟨(ok_iff _ _ _).2 ⟨y1, y2, m1, m2, by omega, by omega⟩, by unfold num; omega⟩

theorem next_month (y m d : Int) (h : ok y m d = true) (hd : d = len y m) (hm : m < 12) : ok y (m + 1) 1 = true ∧ num y (m + 1) 1 = num y m d + 1 := by
  obtain ⟨y1, y2, m1, m2, d1, d2⟩ := (ok_iff y m d).1 h
  have hl := len_bd y (m + 1)
  refine ⟨(ok_iff _ _ _).2 ⟨y1, y2, by omega, by omega, by omega, by omega⟩, ?_⟩
  obtain ⟨k, rfl⟩ : ∃ k : Nat, m = (k : Int) + 1 := ⟨(m - 1).toNat, by omega⟩
  unfold num
  rw [show ((k : Int) + 1).toNat - 1 = k from by omega, show ((k : Int) + 1 + 1).toNat - 1 = k + 1 from by omega]
  simp only [cum]
  omega

theorem next_year (y m d : Int) (h : ok y m d = true) (hd : d = len y m) (hm : m = 12) (hy : y < 9999) : ok (y + 1) 1 1 = true ∧ num (y + 1) 1 1 = num y m d + 1 ∧ d = 31 := by
  obtain ⟨y1, y2, m1, m2, d1, d2⟩ := (ok_iff y m d).1 h
  subst hm
  have hl := len_bd (y + 1) 1
  have e31 : len y 12 = 31 := rfl
  refine ⟨(ok_iff _ _ _).2 ⟨by omega, by omega, by omega, by omega, by omega, by omega⟩, ?_, by omega⟩
  have hs := jan_succ y y1
  have e : cum y 12 = cum y 11 + len y 12 := rfl
  unfold num
  rw [show (12 : Int).toNat - 1 = 11 from rfl, show (1 : Int).toNat - 1 = 0 from rfl]
  simp only [cum] at hs e ⊢
  omega

theorem last_day (m d : Int) (h : ok 9999 m d = true) (hd : d = len 9999 m) (hm : m = 12) : num 9999 m d = 2932896 := by
  subst hm
  subst hd
  decide

end Cal
end Go.Proofs.Ytjkbhckidocclaa
