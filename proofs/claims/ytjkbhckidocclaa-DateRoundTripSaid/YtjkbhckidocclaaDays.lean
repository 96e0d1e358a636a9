/- The contracts of Days and of its reference: the number of a day of the calendar, else ErrRange. -/
import Derived.Test.YtjkbhckidocclaaLeap
namespace Go.Proofs.Ytjkbhckidocclaa
open Go.RowKit

/-- What Days answers. -/
def daysOf (y m d : Int) : Ending := if Cal.ok y m d = true then .returned (.tuple #[.int .i64 (Cal.num y m d), .int .i64 0]) else .returned (.tuple #[.int .i64 0, .int .i64 4])

theorem ret_int2 {a b c : Int} (h : a = b) : Ending.returned (.tuple #[.int .i64 a, .int .i64 c]) = .returned (.tuple #[.int .i64 b, .int .i64 c]) := by rw [h]

theorem num_eq (y d : Int) (j : Nat) : Cal.num y ((j : Int) + 1) d = Cal.jan y + Cal.cum y j + d - 1 - 719162 := by
  unfold Cal.num
  rw [show ((j : Int) + 1).toNat - 1 = j from by omega]

set_option maxRecDepth 20000 in
set_option maxHeartbeats 1000000 in
theorem days_no (y m d : Int) (w : World) (h : Cal.ok y m d = false) :
    Calls Try.prog 16 #[.int .i64 y, .int .i64 m, .int .i64 d] w fun e w' => e = daysOf y m d ∧ w = w' := by
  have e : daysOf y m d = .returned (.tuple #[.int .i64 0, .int .i64 4]) := by unfold daysOf; rw [h]; rfl
  rw [e]
  have hn : ¬ (1 ≤ y ∧ y ≤ 9999 ∧ 1 ≤ m ∧ m ≤ 12 ∧ 1 ≤ d ∧ d ≤ Cal.len y m) := by rw [← Cal.ok_iff, h]; simp
  have hl := Cal.len_bd y m
  clear e h
  by_cases h1 : y < 1
  · clear hn hl
    go_enter Try.func16, Try.ntmps16
    go_wp2_with fail
    go_ret2
    exact ⟨rfl, rfl⟩
  by_cases h2 : 9999 < y
  · clear hn hl
    go_enter Try.func16, Try.ntmps16
    go_wp2_with fail
    go_ret2
    exact ⟨rfl, rfl⟩
  by_cases h3 : m < 1
  · clear hn hl
    go_enter Try.func16, Try.ntmps16
    go_wp2_with fail
    go_ret2
    exact ⟨rfl, rfl⟩
  by_cases h4 : 12 < m
  · clear hn hl
    go_enter Try.func16, Try.ntmps16
    go_wp2_with fail
    go_ret2
    exact ⟨rfl, rfl⟩
  by_cases h5 : d < 1
  · clear hn hl
    go_enter Try.func16, Try.ntmps16
    go_wp2_with fail
    go_ret2
    exact ⟨rfl, rfl⟩
  have h6 : Cal.len y m < d := by omega
  clear hn
  go_enter Try.func16, Try.ntmps16
  go_wp2_with fail
  refine (len_any y m _).mono ?_
  rintro e w1 ⟨rfl, rfl⟩
  go_wp2_with fail
  go_ret2
  exact ⟨rfl, rfl⟩

set_option maxRecDepth 20000 in
set_option maxHeartbeats 1000000 in
theorem days_yes (y m d : Int) (w : World) (h : Cal.ok y m d = true) :
    Calls Try.prog 16 #[.int .i64 y, .int .i64 m, .int .i64 d] w fun e w' => e = daysOf y m d ∧ w = w' := by
  have e : daysOf y m d = .returned (.tuple #[.int .i64 (Cal.num y m d), .int .i64 0]) := by unfold daysOf; rw [if_pos h]
  rw [e]
  obtain ⟨y1, y2, m1, m2, d1, d2⟩ := (Cal.ok_iff y m d).1 h
  have hl := Cal.len_bd y m
  have hj := Cal.jan_bd y y1 (by omega)
  have HJ : Hid (Cal.jan y = 365 * (y - 1) + (y - 1) / 4 - (y - 1) / 100 + (y - 1) / 400) := by exact rfl
  obtain ⟨M, hM⟩ : ∃ M : Nat, m = (M : Int) + 1 := ⟨(m - 1).toNat, by omega⟩
  have HN : Hid (Cal.num y m d = Cal.jan y + Cal.cum y M + d - 1 - 719162) := by rw [hM]; exact num_eq y d M
  have hM2 : m = (M : Int) + 1 := hM
  have hMle : (M : Int) ≤ 11 := by omega
  have HM := Lib.hid hM
  have hmlo : (M : Int) < m := by omega
  clear hM hM2 e h
  go_enter Try.func16, Try.ntmps16
  go_wp2_with fail
  refine (len_any y m _).mono ?_
  rintro e w1 ⟨rfl, rfl⟩
  go_wp2_with fail
  go_loop [9, 10] (fun n k => ∃ j : Nat, (j : Int) < m ∧ k = .int .i64 ((j : Int) + 1) ∧ n = .int .i64 (Cal.jan y + Cal.cum y j + d - 1)) (fun _ k => (m - intOf k).toNat)
  case atStart => exact ⟨0, by omega, rfl, by rw [HJ.out]; simp [Cal.cum]⟩
  case round =>
    obtain ⟨j, hj2, rfl, rfl⟩ := hrel
    have hc := Cal.cum_bd y j
    have hl2 := Cal.len_bd y ((j : Int) + 1)
    by_cases hlt : (j : Int) + 1 < m
    · go_wp2_with fail
      refine (len_any y _ _).mono ?_
      rintro e w1 ⟨rfl, rfl⟩
      go_wp2_with fail
      go_round
      case rel => exact ⟨j + 1, by omega, by go_num, congrArg (Value.int .i64) (by simp only [Cal.cum]; omega)⟩
      case measure => simp [intOf]; omega
    · go_wp2_with fail
      go_ret2
      exact ⟨ret_int2 (by rw [HN.out]; have := HM.out; obtain rfl : j = M := by omega
                          rfl), rfl⟩

theorem days_any (y m d : Int) (w : World) :
    Calls Try.prog 16 #[.int .i64 y, .int .i64 m, .int .i64 d] w fun e w' => e = daysOf y m d ∧ w = w' := by
  cases h : Cal.ok y m d
  · exact days_no y m d w h
  · exact days_yes y m d w h

set_option maxRecDepth 20000 in
set_option maxHeartbeats 1000000 in
theorem january_any (y : Int) (w : World) (h1 : 1 ≤ y) (h2 : y ≤ 10000) :
    Calls Try.prog 26 #[.int .i64 y] w fun e w' => e = .returned (.int .i64 (Cal.jan y - 719162)) ∧ w = w' := by
  have HJ : Hid (Cal.jan y = 365 * (y - 1) + (y - 1) / 4 - (y - 1) / 100 + (y - 1) / 400) := by exact rfl
  go_enter Try.func26, Try.ntmps26
  go_wp2_with fail
  go_ret
  exact ⟨congrArg (fun z => Ending.returned (Value.int .i64 z)) (by rw [HJ.out]; omega), rfl⟩

set_option maxRecDepth 20000 in
set_option maxHeartbeats 1000000 in
theorem refDays_no (y m d : Int) (w : World) (h : Cal.ok y m d = false) :
    Calls Try.prog 17 #[.int .i64 y, .int .i64 m, .int .i64 d] w fun e w' => e = daysOf y m d ∧ w = w' := by
  have e : daysOf y m d = .returned (.tuple #[.int .i64 0, .int .i64 4]) := by unfold daysOf; rw [h]; rfl
  rw [e]
  have hn : ¬ (1 ≤ y ∧ y ≤ 9999 ∧ 1 ≤ m ∧ m ≤ 12 ∧ 1 ≤ d ∧ d ≤ Cal.len y m) := by rw [← Cal.ok_iff, h]; simp
  have hl := Cal.len_bd y m
  clear e h
  by_cases h1 : y < 1
  · clear hn hl
    go_enter Try.func17, Try.ntmps17
    go_wp2_with fail
    go_ret2
    exact ⟨rfl, rfl⟩
  by_cases h2 : 9999 < y
  · clear hn hl
    go_enter Try.func17, Try.ntmps17
    go_wp2_with fail
    go_ret2
    exact ⟨rfl, rfl⟩
  by_cases h3 : m < 1
  · clear hn hl
    go_enter Try.func17, Try.ntmps17
    go_wp2_with fail
    go_ret2
    exact ⟨rfl, rfl⟩
  by_cases h4 : 12 < m
  · clear hn hl
    go_enter Try.func17, Try.ntmps17
    go_wp2_with fail
    go_ret2
    exact ⟨rfl, rfl⟩
  by_cases h5 : d < 1
  · clear hn hl
    go_enter Try.func17, Try.ntmps17
    go_wp2_with fail
    go_ret2
    exact ⟨rfl, rfl⟩
  have h6 : Cal.len y m < d := by omega
  clear hn
  go_enter Try.func17, Try.ntmps17
  go_wp2_with fail
  refine (month_any y m _).mono ?_
  rintro e w1 ⟨rfl, rfl⟩
  go_wp2_with fail
  go_ret2
  exact ⟨rfl, rfl⟩

set_option maxRecDepth 20000 in
set_option maxHeartbeats 1000000 in
theorem refDays_yes (y m d : Int) (w : World) (h : Cal.ok y m d = true) :
    Calls Try.prog 17 #[.int .i64 y, .int .i64 m, .int .i64 d] w fun e w' => e = daysOf y m d ∧ w = w' := by
  have e : daysOf y m d = .returned (.tuple #[.int .i64 (Cal.num y m d), .int .i64 0]) := by unfold daysOf; rw [if_pos h]
  rw [e]
  obtain ⟨y1, y2, m1, m2, d1, d2⟩ := (Cal.ok_iff y m d).1 h
  have hl := Cal.len_bd y m
  have hj := Cal.jan_bd y y1 (by omega)
  obtain ⟨M, hM⟩ : ∃ M : Nat, m = (M : Int) + 1 := ⟨(m - 1).toNat, by omega⟩
  have HN : Hid (Cal.num y m d = Cal.jan y + Cal.cum y M + d - 1 - 719162) := by rw [hM]; exact num_eq y d M
  have hM2 : m = (M : Int) + 1 := hM
  have hMle : (M : Int) ≤ 11 := by omega
  have HM := Lib.hid hM
  have hmlo : (M : Int) < m := by omega
  clear hM hM2 e h
  go_enter Try.func17, Try.ntmps17
  go_wp2_with fail
  refine (month_any y m _).mono ?_
  rintro e w1 ⟨rfl, rfl⟩
  go_wp2_with fail
  refine (january_any y _ y1 (by omega)).mono ?_
  rintro e w1 ⟨rfl, rfl⟩
  go_wp2_with fail
  go_loop [8, 9] (fun n k => ∃ j : Nat, (j : Int) < m ∧ k = .int .i64 ((j : Int) + 1) ∧ n = .int .i64 (Cal.jan y - 719162 + Cal.cum y j)) (fun _ k => (m - intOf k).toNat)
  case atStart => exact ⟨0, by omega, rfl, by simp [Cal.cum]⟩
  case round =>
    obtain ⟨j, hj2, rfl, rfl⟩ := hrel
    have hc := Cal.cum_bd y j
    have hl2 := Cal.len_bd y ((j : Int) + 1)
    by_cases hlt : (j : Int) + 1 < m
    · go_wp2_with fail
      refine (month_any y _ _).mono ?_
      rintro e w1 ⟨rfl, rfl⟩
      go_wp2_with fail
      go_round
      case rel => exact ⟨j + 1, by omega, by go_num, congrArg (Value.int .i64) (by simp only [Cal.cum]; omega)⟩
      case measure => simp [intOf]; omega
    · go_wp2_with fail
      go_ret2
      exact ⟨ret_int2 (by rw [HN.out]; have := HM.out; obtain rfl : j = M := by omega
                          omega), rfl⟩

theorem refDays_any (y m d : Int) (w : World) :
    Calls Try.prog 17 #[.int .i64 y, .int .i64 m, .int .i64 d] w fun e w' => e = daysOf y m d ∧ w = w' := by
  cases h : Cal.ok y m d
  · exact refDays_no y m d w h
  · exact refDays_yes y m d w h

theorem ok_start : Cal.ok 1970 1 2 = true := by decide
theorem num_start : Cal.num 1970 1 2 = 1 := by decide

set_option maxRecDepth 20000 in
set_option maxHeartbeats 400000 in
theorem awake_any (w : World) : Calls Try.prog 13 #[] w fun e w' => e = .returned (.bool true) ∧ w = w' := by
  have h : daysOf 1970 1 2 = .returned (.tuple #[.int .i64 1, .int .i64 0]) := by unfold daysOf; rw [if_pos ok_start, num_start]
  have H := Lib.hid h
  clear h
  go_enter Try.func13, Try.ntmps13
  go_wp2_with fail
  refine (days_any _ _ _ _).mono ?_
  rw [H.out]
  rintro e w1 ⟨rfl, rfl⟩
  go_wp2_with fail
  go_ret
  exact ⟨rfl, rfl⟩

set_option maxRecDepth 20000 in
set_option maxHeartbeats 400000 in
theorem law_leap (y : Int) (w : World) (_ : (Lit.int .i64 y).wf = true) : Calls Try.prog 3 #[.int .i64 y] w fun e w' => e = .returned (.bool true) ∧ Below w.heap.size w w' := by
  have hpk := pick_bd y 20000 (by omega)
  go_enter Try.func3, Try.ntmps3
  go_wp2_with fail
  refine (pick_any _ _ _ (by omega) (by omega)).mono ?_
  rintro e w1 ⟨rfl, rfl⟩
  generalize pick y 20000 = p at hpk
  go_wp2_with fail
  refine (awake_any _).mono ?_
  rintro e w1 ⟨rfl, rfl⟩
  go_wp2_with fail
  refine (leap_any _ _).mono ?_
  rintro e w1 ⟨rfl, rfl⟩
  go_wp2_with fail
  refine (refLeap_any _ _).mono ?_
  rintro e w1 ⟨rfl, rfl⟩
  go_wp2_with fail
  refine (leap_any _ _).mono ?_
  rintro e w1 ⟨rfl, rfl⟩
  go_wp2_with fail
  refine (refLeap_any _ _).mono ?_
  rintro e w1 ⟨rfl, rfl⟩
  go_wp2_with fail
  go_ret
  exact ⟨rfl, Below.refl _ _⟩

theorem daysOf_two (y m d : Int) : ∃ n e : Int, daysOf y m d = .returned (.tuple #[.int .i64 n, .int .i64 e]) := by
  unfold daysOf; split
  · exact ⟨_, _, rfl⟩
  · exact ⟨_, _, rfl⟩

set_option maxRecDepth 20000 in
set_option maxHeartbeats 400000 in
theorem law_days (y m d : Int) (w : World) (_ : (Lit.int .i64 y).wf = true) (_ : (Lit.int .i64 m).wf = true) (_ : (Lit.int .i64 d).wf = true) :
    Calls Try.prog 4 #[.int .i64 y, .int .i64 m, .int .i64 d] w fun e w' => e = .returned (.bool true) ∧ Below w.heap.size w w' := by
  have h1 := pick_bd y 10003 (by omega)
  have h2 := pick_bd m 15 (by omega)
  have h3 := pick_bd d 34 (by omega)
  obtain ⟨n, e, he⟩ := daysOf_two y m d
  have HE := Lib.hid he
  clear he
  go_enter Try.func4, Try.ntmps4
  go_wp2_with fail
  refine (days_any _ _ _ _).mono ?_
  rw [HE.out]
  rintro e w1 ⟨rfl, rfl⟩
  go_wp2_with fail
  refine (refDays_any _ _ _ _).mono ?_
  rw [HE.out]
  rintro e w1 ⟨rfl, rfl⟩
  go_wp2_with fail
  refine (pick_any _ _ _ (by omega) (by omega)).mono ?_
  rintro e w1 ⟨rfl, rfl⟩
  go_wp2_with fail
  refine (pick_any _ _ _ (by omega) (by omega)).mono ?_
  rintro e w1 ⟨rfl, rfl⟩
  go_wp2_with fail
  refine (pick_any _ _ _ (by omega) (by omega)).mono ?_
  rintro e w1 ⟨rfl, rfl⟩
  generalize pick y 10003 = p at h1
  generalize pick m 15 = q at h2
  generalize pick d 34 = r at h3
  obtain ⟨n2, e2, he2⟩ := daysOf_two (p - 1) (q - 1) (r - 1)
  have HE2 := Lib.hid he2
  clear he2
  go_wp2_with fail
  refine (days_any _ _ _ _).mono ?_
  rw [HE2.out]
  rintro e w1 ⟨rfl, rfl⟩
  go_wp2_with fail
  refine (refDays_any _ _ _ _).mono ?_
  rw [HE2.out]
  rintro e w1 ⟨rfl, rfl⟩
  go_wp2_with fail
  refine (awake_any _).mono ?_
  rintro e w1 ⟨rfl, rfl⟩
  go_wp2_with fail
  go_ret
  exact ⟨rfl, Below.refl _ _⟩
end Go.Proofs.Ytjkbhckidocclaa
