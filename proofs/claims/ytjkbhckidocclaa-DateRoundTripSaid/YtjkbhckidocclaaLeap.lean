/- The contracts of Leap, length and month; Pick. -/
import Derived.Test.YtjkbhckidocclaaProg
import Derived.Test.YtjkbhckidocclaaPlain
import Derived.WalkKit
import Derived.WalkSpells
import Derived.WalkLawsBesides
import Derived.Lib.Hide
namespace Go.Proofs.Ytjkbhckidocclaa
open Go.RowKit

set_option maxHeartbeats 400000 in
theorem leap_any (y : Int) (w : World) :
    Calls Try.prog 14 #[.int .i64 y] w fun e w' => e = .returned (.bool (Cal.leap y)) ∧ w = w' := by
  unfold Cal.leap
  cases h4 : y.tmod 4 == 0 <;> cases h100 : y.tmod 100 != 0 <;> cases h400 : y.tmod 400 == 0
  all_goals
    go_enter Try.func14, Try.ntmps14
    go_wp2_with fail
    go_ret
    exact ⟨rfl, rfl⟩

set_option maxHeartbeats 400000 in
theorem refLeap_any (y : Int) (w : World) :
    Calls Try.prog 15 #[.int .i64 y] w fun e w' => e = .returned (.bool (Cal.leap y)) ∧ w = w' := by
  unfold Cal.leap
  cases h4 : y.tmod 4 == 0 <;> cases h100 : y.tmod 100 != 0 <;> cases h400 : y.tmod 400 == 0
  all_goals
    go_enter Try.func15, Try.ntmps15
    go_wp2_with fail
    go_ret
    exact ⟨rfl, rfl⟩

set_option maxHeartbeats 1000000 in
theorem len_any (y m : Int) (w : World) :
    Calls Try.prog 24 #[.int .i64 y, .int .i64 m] w fun e w' => e = .returned (.int .i64 (Cal.len y m)) ∧ w = w' := by
  by_cases h2 : m = 2
  · subst h2
    cases hl : Cal.leap y
    · have e : Cal.len y 2 = 28 := by simp [Cal.len, hl]
      rw [e]
      have HL := Lib.hid hl
      clear hl e
      go_enter Try.func24, Try.ntmps24
      go_wp2_with fail
      refine (leap_any y _).mono ?_
      rw [HL.out]
      rintro e w1 ⟨rfl, rfl⟩
      go_wp2_with fail
      go_ret
      exact ⟨rfl, rfl⟩
    · have e : Cal.len y 2 = 29 := by simp [Cal.len, hl]
      rw [e]
      have HL := Lib.hid hl
      clear hl e
      go_enter Try.func24, Try.ntmps24
      go_wp2_with fail
      refine (leap_any y _).mono ?_
      rw [HL.out]
      rintro e w1 ⟨rfl, rfl⟩
      go_wp2_with fail
      go_ret
      exact ⟨rfl, rfl⟩
  · by_cases h4 : m = 4 ∨ m = 6 ∨ m = 9 ∨ m = 11
    · have e : Cal.len y m = 30 := by simp [Cal.len, h2, h4]
      rw [e]
      clear h2 e
      rcases h4 with rfl | rfl | rfl | rfl
      all_goals
        go_enter Try.func24, Try.ntmps24
        go_wp2_with fail
        go_ret
        exact ⟨rfl, rfl⟩
    · have e : Cal.len y m = 31 := by simp [Cal.len, h2, h4]
      rw [e]
      have b2 : (m == 2) = false := by rw [beq_eq_false_iff_ne]; omega
      have b4 : (m == 4) = false := by rw [beq_eq_false_iff_ne]; omega
      have b6 : (m == 6) = false := by rw [beq_eq_false_iff_ne]; omega
      have b9 : (m == 9) = false := by rw [beq_eq_false_iff_ne]; omega
      have b11 : (m == 11) = false := by rw [beq_eq_false_iff_ne]; omega
      clear h2 h4 e
      go_enter Try.func24, Try.ntmps24
      go_wp2_with fail
      go_ret
      exact ⟨rfl, rfl⟩

set_option maxHeartbeats 1000000 in
theorem month_any (y m : Int) (w : World) :
    Calls Try.prog 25 #[.int .i64 y, .int .i64 m] w fun e w' => e = .returned (.int .i64 (Cal.len y m)) ∧ w = w' := by
  by_cases h2 : m = 2
  · subst h2
    cases hl : Cal.leap y
    · have e : Cal.len y 2 = 28 := by simp [Cal.len, hl]
      rw [e]
      have HL := Lib.hid hl
      clear hl e
      go_enter Try.func25, Try.ntmps25
      go_wp2_with fail
      refine (refLeap_any y _).mono ?_
      rw [HL.out]
      rintro e w1 ⟨rfl, rfl⟩
      go_wp2_with fail
      go_ret
      exact ⟨rfl, rfl⟩
    · have e : Cal.len y 2 = 29 := by simp [Cal.len, hl]
      rw [e]
      have HL := Lib.hid hl
      clear hl e
      go_enter Try.func25, Try.ntmps25
      go_wp2_with fail
      refine (refLeap_any y _).mono ?_
      rw [HL.out]
      rintro e w1 ⟨rfl, rfl⟩
      go_wp2_with fail
      go_ret
      exact ⟨rfl, rfl⟩
  · by_cases h4 : m = 4 ∨ m = 6 ∨ m = 9 ∨ m = 11
    · have e : Cal.len y m = 30 := by simp [Cal.len, h2, h4]
      rw [e]
      clear h2 e
      rcases h4 with rfl | rfl | rfl | rfl
      all_goals
        go_enter Try.func25, Try.ntmps25
        go_wp2_with fail
        go_ret
        exact ⟨rfl, rfl⟩
    · have e : Cal.len y m = 31 := by simp [Cal.len, h2, h4]
      rw [e]
      have b2 : (m == 2) = false := by rw [beq_eq_false_iff_ne]; omega
      have b4 : (m == 4) = false := by rw [beq_eq_false_iff_ne]; omega
      have b6 : (m == 6) = false := by rw [beq_eq_false_iff_ne]; omega
      have b9 : (m == 9) = false := by rw [beq_eq_false_iff_ne]; omega
      have b11 : (m == 11) = false := by rw [beq_eq_false_iff_ne]; omega
      clear h2 h4 e
      go_enter Try.func25, Try.ntmps25
      go_wp2_with fail
      go_ret
      exact ⟨rfl, rfl⟩

/-- Pick's number. -/
def pick (v n : Int) : Int := IntKind.u64.wrap v % n
theorem pick_bd (v n : Int) (h : 1 ≤ n) : 0 ≤ pick v n ∧ pick v n < n :=
  ⟨Int.emod_nonneg _ (by omega), Int.emod_lt_of_pos _ (by omega)⟩

theorem pick_walk (v n : Int) (h1 : 1 ≤ n) (h2 : n ≤ 1000000000000000) : wrap64 ((IntKind.u64.wrap v).tmod n) = pick v n := by
  have hb := pick_bd v n h1
  rw [Int.tmod_eq_emod_of_nonneg (wrap_u64_nonneg v)]
  show wrap64 (pick v n) = pick v n
  exact IntWalk.wrap64_in _ (by omega)

set_option maxRecDepth 20000 in
set_option maxHeartbeats 400000 in
theorem pick_any (v n : Int) (w : World) (h1 : 1 ≤ n) (h2 : n ≤ 1000000000000000) :
    Calls Try.prog 12 #[.int .i64 v, .int .i64 n] w fun e w' => e = .returned (.int .i64 (pick v n)) ∧ w = w' := by
  go_enter Try.func12, Try.ntmps12
  go_wp2_with fail
  go_ret
  exact ⟨congrArg (fun z => Ending.returned (Value.int .i64 z)) (pick_walk v n h1 h2), rfl⟩
end Go.Proofs.Ytjkbhckidocclaa
