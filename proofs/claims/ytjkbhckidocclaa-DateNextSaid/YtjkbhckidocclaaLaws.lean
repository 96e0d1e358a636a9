/- The walks of the laws DateExamples, DateCivil, DateInverse and DateNext. -/
import Derived.Test.YtjkbhckidocclaaRefCivil
namespace Go.Proofs.Ytjkbhckidocclaa
open Go.RowKit

theorem ok1 : Cal.ok 2000 2 29 = true := by decide
theorem num1 : Cal.num 2000 2 29 = 11016 := by decide
theorem ok2 : Cal.ok 1 1 1 = true := by decide
theorem num2 : Cal.num 1 1 1 = -719162 := by decide
theorem civ1 : civilOf (-1) 1969 12 31 := ⟨by decide, by decide⟩

set_option maxRecDepth 20000 in
set_option maxHeartbeats 400000 in
theorem law_examples (w : World) : Calls Try.prog 5 #[] w fun e w' => e = .returned (.bool true) ∧ Below w.heap.size w w' := by
  have h1 : daysOf 2000 2 29 = .returned (.tuple #[.int .i64 11016, .int .i64 0]) := by unfold daysOf; rw [if_pos ok1, num1]
  have h2 : daysOf 1 1 1 = .returned (.tuple #[.int .i64 (-719162), .int .i64 0]) := by unfold daysOf; rw [if_pos ok2, num2]
  have H1 := Lib.hid h1
  have H2 := Lib.hid h2
  clear h1 h2
  go_enter Try.func5, Try.ntmps5
  go_wp2_with fail
  refine (days_any _ _ _ _).mono ?_
  rw [H1.out]
  rintro e w1 ⟨rfl, rfl⟩
  go_wp2_with fail
  refine (civil_at _ _ _ _ _ civ1).mono ?_
  rintro e w1 ⟨rfl, rfl⟩
  go_wp2_with fail
  refine (days_any _ _ _ _).mono ?_
  rw [H2.out]
  rintro e w1 ⟨rfl, rfl⟩
  go_wp2_with fail
  go_ret
  exact ⟨rfl, Below.refl _ _⟩

theorem civil_two (n : Int) : ∃ y m d c : Int, (∀ w, Calls Try.prog 18 #[.int .i64 n] w fun e w' => e = .returned (.tuple #[.int .i64 y, .int .i64 m, .int .i64 d, .int .i64 c]) ∧ w = w') ∧
    (∀ w, Calls Try.prog 20 #[.int .i64 n] w fun e w' => e = .returned (.tuple #[.int .i64 y, .int .i64 m, .int .i64 d, .int .i64 c]) ∧ w = w') := by
  by_cases h : -719162 ≤ n ∧ n ≤ 2932896
  · obtain ⟨y, m, d, ok, num⟩ := date_of n h.1 h.2
    exact ⟨y, m, d, 0, fun w => civil_at n y m d w ⟨ok, num⟩, fun w => refCivil_at n y m d w ⟨ok, num⟩⟩
  · exact ⟨0, 0, 0, 4, fun w => civil_no n w (by omega), fun w => refCivil_no n w (by omega)⟩

set_option maxRecDepth 20000 in
set_option maxHeartbeats 400000 in
theorem law_civil (n : Int) (near : Bool) (w : World) (_ : (Lit.int .i64 n).wf = true) : Calls Try.prog 6 #[.int .i64 n, .bool near] w fun e w' => e = .returned (.bool true) ∧ Below w.heap.size w w' := by
  cases near
  · obtain ⟨y, m, d, c, h1, h2⟩ := civil_two n
    have H1 := Lib.hid h1
    have H2 := Lib.hid h2
    clear h1 h2
    go_enter Try.func6, Try.ntmps6
    go_wp2_with fail
    refine (H1.out _).mono ?_
    rintro e w1 ⟨rfl, rfl⟩
    go_wp2_with fail
    refine (H2.out _).mono ?_
    rintro e w1 ⟨rfl, rfl⟩
    go_wp2_with fail
    refine (awake_any _).mono ?_
    rintro e w1 ⟨rfl, rfl⟩
    go_wp2_with fail
    go_ret
    exact ⟨rfl, Below.refl _ _⟩
  · have hp := pick_bd n 3652059 (by omega)
    go_enter Try.func6, Try.ntmps6
    go_wp2_with fail
    refine (day_any _ _).mono ?_
    rintro e w1 ⟨rfl, rfl⟩
    go_wp2_with fail
    refine (pick_any _ 5 _ (by omega) (by omega)).mono ?_
    rintro e w1 ⟨rfl, rfl⟩
    generalize pick n 3652059 = p at hp
    generalize hq : pick _ 5 = q
    have hqb : 0 ≤ q ∧ q < 5 := by rw [← hq]; exact pick_bd _ 5 (by omega)
    clear hq
    obtain ⟨y, m, d, c, h1, h2⟩ := civil_two (p - 719162 + q - 2)
    have H1 := Lib.hid h1
    have H2 := Lib.hid h2
    clear h1 h2
    go_wp2_with fail
    refine (H1.out _).mono ?_
    rintro e w1 ⟨rfl, rfl⟩
    go_wp2_with fail
    refine (H2.out _).mono ?_
    rintro e w1 ⟨rfl, rfl⟩
    go_wp2_with fail
    refine (awake_any _).mono ?_
    rintro e w1 ⟨rfl, rfl⟩
    go_wp2_with fail
    go_ret
    exact ⟨rfl, Below.refl _ _⟩

set_option maxRecDepth 20000 in
set_option maxHeartbeats 400000 in
theorem law_inverse (n : Int) (w : World) (_ : (Lit.int .i64 n).wf = true) : Calls Try.prog 7 #[.int .i64 n] w fun e w' => e = .returned (.bool true) ∧ Below w.heap.size w w' := by
  have hp := pick_bd n 3652059 (by omega)
  go_enter Try.func7, Try.ntmps7
  go_wp2_with fail
  refine (day_any _ _).mono ?_
  rintro e w1 ⟨rfl, rfl⟩
  generalize pick n 3652059 = p at hp
  obtain ⟨y, m, d, ok, num⟩ := date_of (p - 719162) (by omega) (by omega)
  have HC : Hid (civilOf (p - 719162) y m d) := ⟨ok, num⟩
  have h1 : daysOf y m d = .returned (.tuple #[.int .i64 (p - 719162), .int .i64 0]) := by unfold daysOf; rw [if_pos ok, num]
  have H1 := Lib.hid h1
  clear h1 ok num
  go_wp2_with fail
  refine (civil_at _ _ _ _ _ HC.out).mono ?_
  rintro e w1 ⟨rfl, rfl⟩
  go_wp2_with fail
  refine (days_any _ _ _ _).mono ?_
  rw [H1.out]
  rintro e w1 ⟨rfl, rfl⟩
  go_wp2_with fail
  refine (awake_any _).mono ?_
  rintro e w1 ⟨rfl, rfl⟩
  go_wp2_with fail
  go_ret
  exact ⟨rfl, Below.refl _ _⟩

set_option maxRecDepth 20000 in
set_option maxHeartbeats 1000000 in
theorem law_next (n : Int) (w : World) (_ : (Lit.int .i64 n).wf = true) : Calls Try.prog 8 #[.int .i64 n] w fun e w' => e = .returned (.bool true) ∧ Below w.heap.size w w' := by
  have hp := pick_bd n 3652059 (by omega)
  go_enter Try.func8, Try.ntmps8
  go_wp2_with fail
  refine (day_any _ _).mono ?_
  rintro e w1 ⟨rfl, rfl⟩
  generalize pick n 3652059 = p at hp
  by_cases hmax : p = 3652058
  · subst hmax
    go_wp2_with fail
    refine (awake_any _).mono ?_
    rintro e w1 ⟨rfl, rfl⟩
    go_wp2_with fail
    go_ret
    exact ⟨rfl, Below.refl _ _⟩
  · obtain ⟨y, m, d, ok, num⟩ := date_of (p - 719162) (by omega) (by omega)
    have HC : Hid (civilOf (p - 719162) y m d) := ⟨ok, num⟩
    obtain ⟨y1, y2, m1, m2, d1, d2⟩ := (Cal.ok_iff y m d).1 ok
    have hl := Cal.len_bd y m
    by_cases hd : d < Cal.len y m
    · obtain ⟨ok', num'⟩ := Cal.next_day y m d ok hd
      have HC' : Hid (civilOf (p - 719162 + 1) y m (d + 1)) := ⟨ok', by rw [num', num]⟩
      clear ok' num' ok num hd
      go_wp2_with fail
      refine (civil_at _ _ _ _ _ HC.out).mono ?_
      rintro e w1 ⟨rfl, rfl⟩
      go_wp2_with fail
      refine (civil_at _ _ _ _ _ HC'.out).mono ?_
      rintro e w1 ⟨rfl, rfl⟩
      go_wp2_with fail
      refine (awake_any _).mono ?_
      rintro e w1 ⟨rfl, rfl⟩
      go_wp2_with fail
      go_ret
      exact ⟨rfl, Below.refl _ _⟩
    · have hd' : d = Cal.len y m := by omega
      by_cases hm : m < 12
      · obtain ⟨ok', num'⟩ := Cal.next_month y m d ok hd' hm
        have HC' : Hid (civilOf (p - 719162 + 1) y (m + 1) 1) := ⟨ok', by rw [num', num]⟩
        clear ok' num' ok num hd hd'
        go_wp2_with fail
        refine (civil_at _ _ _ _ _ HC.out).mono ?_
        rintro e w1 ⟨rfl, rfl⟩
        go_wp2_with fail
        refine (civil_at _ _ _ _ _ HC'.out).mono ?_
        rintro e w1 ⟨rfl, rfl⟩
        go_wp2_with fail
        refine (awake_any _).mono ?_
        rintro e w1 ⟨rfl, rfl⟩
        go_wp2_with fail
        go_ret
        exact ⟨rfl, Below.refl _ _⟩
      · have hm' : m = 12 := by omega
        have hy : y < 9999 := by
          rcases Int.lt_or_le y 9999 with h | h
          · exact h
          · have e : y = 9999 := by omega
            subst e
            have := Cal.last_day m d ok hd' hm'
            omega
        obtain ⟨ok', num', h31⟩ := Cal.next_year y m d ok hd' hm' hy
        have HC' : Hid (civilOf (p - 719162 + 1) (y + 1) 1 1) := ⟨ok', by rw [num', num]⟩
        clear ok' num' ok num hd hd' hm
        subst hm' h31
        go_wp2_with fail
        refine (civil_at _ _ _ _ _ HC.out).mono ?_
        rintro e w1 ⟨rfl, rfl⟩
        go_wp2_with fail
        refine (civil_at _ _ _ _ _ HC'.out).mono ?_
        rintro e w1 ⟨rfl, rfl⟩
        go_wp2_with fail
        refine (awake_any _).mono ?_
        rintro e w1 ⟨rfl, rfl⟩
        go_wp2_with fail
        go_ret
        exact ⟨rfl, Below.refl _ _⟩
end Go.Proofs.Ytjkbhckidocclaa
