/- The contracts of Civil and of its reference: the year, the month and the day of a number in range, else ErrRange. -/
import Derived.Test.YtjkbhckidocclaaDays
namespace Go.Proofs.Ytjkbhckidocclaa
open Go.RowKit

/-- What Civil answers for a number in range. -/
def IsCivil (n : Int) (e : Ending) : Prop := ∃ y m d : Int, e = .returned (.tuple #[.int .i64 y, .int .i64 m, .int .i64 d, .int .i64 0]) ∧ Cal.ok y m d = true ∧ Cal.num y m d = n

theorem ret_int4 {a b c a' b' c' d : Int} (h1 : a = a') (h2 : b = b') (h3 : c = c') : Ending.returned (.tuple #[.int .i64 a, .int .i64 b, .int .i64 c, .int .i64 d]) = .returned (.tuple #[.int .i64 a', .int .i64 b', .int .i64 c', .int .i64 d]) := by rw [h1, h2, h3]

/-- The end of the search for the month. -/
theorem civil_end (n y r : Int) (j : Nat) (y1 : 1 ≤ y) (y2 : y ≤ 9999) (hj : Cal.jan y + r = n + 719162) (hj11 : j ≤ 11) (h0 : 0 ≤ r - Cal.cum y j) (h1 : r - Cal.cum y j < Cal.len y ((j : Int) + 1)) :
    Cal.ok y ((j : Int) + 1) (r - Cal.cum y j + 1) = true ∧ Cal.num y ((j : Int) + 1) (r - Cal.cum y j + 1) = n := by
  refine ⟨(Cal.ok_iff _ _ _).2 ⟨y1, y2, by omega, by omega, by omega, by omega⟩, ?_⟩
  rw [num_eq]
  omega

set_option maxRecDepth 20000 in
set_option maxHeartbeats 1000000 in
theorem civil_no (n : Int) (w : World) (h : n < -719162 ∨ 2932896 < n) :
    Calls Try.prog 18 #[.int .i64 n] w fun e w' => e = .returned (.tuple #[.int .i64 0, .int .i64 0, .int .i64 0, .int .i64 4]) ∧ w = w' := by
  rcases h with h | h
  all_goals
    go_enter Try.func18, Try.ntmps18
    go_wp2_with fail
    refine bodyPost_ret (v := .tuple #[.int .i64 0, .int .i64 0, .int .i64 0, .int .i64 4]) (by simp [results, Try.results18, go_sem]) rfl ⟨rfl, rfl⟩

set_option maxRecDepth 20000 in
set_option maxHeartbeats 1000000 in
theorem civil_yes (n : Int) (w : World) (h1 : -719162 ≤ n) (h2 : n ≤ 2932896) :
    Calls Try.prog 18 #[.int .i64 n] w fun e w' => IsCivil n e ∧ w = w' := by
  obtain ⟨a, N1, q, b, N2, c, N3, p, k, r, y, ha, hN1, hq, hb, hN2, hc, hN3, hp, hk, hr, hy, ⟨a0, a24, N10, N11, q0, q4, N20, N21, c0, c24, N30, N31, p0, p4⟩, y1, y2, hj, r0, r12⟩ := Cal.stages (n + 719162) (by omega) (by omega)
  have r366 : r ≤ 366 := by have := Cal.cum12 y; split at this <;> omega
  have HJ := Lib.hid hj
  clear hj
  have hq3 : (q ≤ 3 ∧ b = q) ∨ (¬ q ≤ 3 ∧ b = 3) := by omega
  have hp3 : (p ≤ 3 ∧ k = p) ∨ (¬ p ≤ 3 ∧ k = 3) := by omega
  clear hb hk
  have hy' := hy.symm
  clear hy
  have F : ∀ j : Nat, j ≤ 11 → 0 ≤ r - Cal.cum y j → r - Cal.cum y j < Cal.len y ((j : Int) + 1) → Cal.ok y ((j : Int) + 1) (r - Cal.cum y j + 1) = true ∧ Cal.num y ((j : Int) + 1) (r - Cal.cum y j + 1) = n :=
    fun j h h0 h1 => civil_end n y r j y1 y2 HJ.out h h0 h1
  have HF := Lib.hid F
  clear F
  have hc12 := Cal.cum_bd y 12
  rcases hq3 with ⟨hq3, rfl⟩ | ⟨hq3, rfl⟩ <;> rcases hp3 with ⟨hp3, rfl⟩ | ⟨hp3, rfl⟩
  case inr.inl => clear HJ HF; omega
  case inl.inr =>
    have e1 : N3 - 1095 = r := by omega
    clear hr
    go_enter Try.func18, Try.ntmps18
    go_wp2_with fail
    clear ha hN1 hq hN2 hc hN3 hp hy' e1
    go_loop [0, 3] (fun s m => ∃ j : Nat, j ≤ 11 ∧ m = .int .i64 ((j : Int) + 1) ∧ s = .int .i64 (r - Cal.cum y j) ∧ 0 ≤ r - Cal.cum y j) (fun _ m => (13 - intOf m).toNat)
    case atStart => exact ⟨0, by omega, rfl, by simp [Cal.cum], by simp [Cal.cum]; omega⟩
    case round =>
      obtain ⟨j, hj11, rfl, rfl, hj0⟩ := hrel
      have hl := Cal.len_bd y ((j : Int) + 1)
      have hcj := Cal.cum_bd y j
      by_cases hlt : Cal.len y ((j : Int) + 1) ≤ r - Cal.cum y j
      · have hj12 : j + 1 ≤ 11 := by
          rcases Nat.lt_or_ge 10 j with h | h
          · obtain rfl : j = 11 := by omega
            have e : Cal.cum y 12 = Cal.cum y 11 + Cal.len y ((11 : Int) + 1) := rfl
            have e' : ((11 : Nat) : Int) = 11 := rfl
            rw [e'] at hlt
            omega
          · omega
        go_wp2_with fail
        refine (len_any y _ _).mono ?_
        rintro e w1 ⟨rfl, rfl⟩
        go_wp2_with fail
        refine (len_any y _ _).mono ?_
        rintro e w1 ⟨rfl, rfl⟩
        go_wp2_with fail
        go_round
        case rel => exact ⟨j + 1, hj12, by go_num, congrArg (Value.int .i64) (by simp only [Cal.cum]; omega), by simp only [Cal.cum]; omega⟩
        case measure => simp [intOf]; omega
      · have hE := Lib.hid (HF.out j hj11 hj0 (by omega))
        go_wp2_with fail
        refine (len_any y _ _).mono ?_
        rintro e w1 ⟨rfl, rfl⟩
        go_wp2_with fail
        refine bodyPost_ret (v := .tuple #[.int .i64 y, .int .i64 ((j : Int) + 1), .int .i64 (r - Cal.cum y j + 1), .int .i64 0]) (by simp [results, Try.results18, go_sem]) rfl ⟨⟨_, _, _, rfl, hE.out.1, hE.out.2⟩, rfl⟩
  case inr.inr =>
    have e0 : N1 - 109572 = N2 := by omega
    have e1 : N3 - 1095 = r := by omega
    have e2 : 1 + 400 * a + 300 + 4 * c + 3 = y := by omega
    clear hr hN2 hy'
    go_enter Try.func18, Try.ntmps18
    go_wp2_with fail
    clear ha hN1 hq hc hN3 hp e0 e1 e2
    go_loop [0, 3] (fun s m => ∃ j : Nat, j ≤ 11 ∧ m = .int .i64 ((j : Int) + 1) ∧ s = .int .i64 (r - Cal.cum y j) ∧ 0 ≤ r - Cal.cum y j) (fun _ m => (13 - intOf m).toNat)
    case atStart => exact ⟨0, by omega, rfl, by simp [Cal.cum], by simp [Cal.cum]; omega⟩
    case round =>
      obtain ⟨j, hj11, rfl, rfl, hj0⟩ := hrel
      have hl := Cal.len_bd y ((j : Int) + 1)
      have hcj := Cal.cum_bd y j
      by_cases hlt : Cal.len y ((j : Int) + 1) ≤ r - Cal.cum y j
      · have hj12 : j + 1 ≤ 11 := by
          rcases Nat.lt_or_ge 10 j with h | h
          · obtain rfl : j = 11 := by omega
            have e : Cal.cum y 12 = Cal.cum y 11 + Cal.len y ((11 : Int) + 1) := rfl
            have e' : ((11 : Nat) : Int) = 11 := rfl
            rw [e'] at hlt
            omega
          · omega
        go_wp2_with fail
        refine (len_any y _ _).mono ?_
        rintro e w1 ⟨rfl, rfl⟩
        go_wp2_with fail
        refine (len_any y _ _).mono ?_
        rintro e w1 ⟨rfl, rfl⟩
        go_wp2_with fail
        go_round
        case rel => exact ⟨j + 1, hj12, by go_num, congrArg (Value.int .i64) (by simp only [Cal.cum]; omega), by simp only [Cal.cum]; omega⟩
        case measure => simp [intOf]; omega
      · have hE := Lib.hid (HF.out j hj11 hj0 (by omega))
        go_wp2_with fail
        refine (len_any y _ _).mono ?_
        rintro e w1 ⟨rfl, rfl⟩
        go_wp2_with fail
        refine bodyPost_ret (v := .tuple #[.int .i64 y, .int .i64 ((j : Int) + 1), .int .i64 (r - Cal.cum y j + 1), .int .i64 0]) (by simp [results, Try.results18, go_sem]) rfl ⟨⟨_, _, _, rfl, hE.out.1, hE.out.2⟩, rfl⟩
  case inl.inl =>
    go_enter Try.func18, Try.ntmps18
    go_wp2_with fail
    clear ha hN1 hq hN2 hc hN3 hp hr hy'
    go_loop [0, 3] (fun s m => ∃ j : Nat, j ≤ 11 ∧ m = .int .i64 ((j : Int) + 1) ∧ s = .int .i64 (r - Cal.cum y j) ∧ 0 ≤ r - Cal.cum y j) (fun _ m => (13 - intOf m).toNat)
    case atStart => exact ⟨0, by omega, rfl, by simp [Cal.cum], by simp [Cal.cum]; omega⟩
    case round =>
      obtain ⟨j, hj11, rfl, rfl, hj0⟩ := hrel
      have hl := Cal.len_bd y ((j : Int) + 1)
      have hcj := Cal.cum_bd y j
      by_cases hlt : Cal.len y ((j : Int) + 1) ≤ r - Cal.cum y j
      · have hj12 : j + 1 ≤ 11 := by
          rcases Nat.lt_or_ge 10 j with h | h
          · obtain rfl : j = 11 := by omega
            have e : Cal.cum y 12 = Cal.cum y 11 + Cal.len y ((11 : Int) + 1) := rfl
            have e' : ((11 : Nat) : Int) = 11 := rfl
            rw [e'] at hlt
            omega
          · omega
        go_wp2_with fail
        refine (len_any y _ _).mono ?_
        rintro e w1 ⟨rfl, rfl⟩
        go_wp2_with fail
        refine (len_any y _ _).mono ?_
        rintro e w1 ⟨rfl, rfl⟩
        go_wp2_with fail
        go_round
        case rel => exact ⟨j + 1, hj12, by go_num, congrArg (Value.int .i64) (by simp only [Cal.cum]; omega), by simp only [Cal.cum]; omega⟩
        case measure => simp [intOf]; omega
      · have hE := Lib.hid (HF.out j hj11 hj0 (by omega))
        go_wp2_with fail
        refine (len_any y _ _).mono ?_
        rintro e w1 ⟨rfl, rfl⟩
        go_wp2_with fail
        refine bodyPost_ret (v := .tuple #[.int .i64 y, .int .i64 ((j : Int) + 1), .int .i64 (r - Cal.cum y j + 1), .int .i64 0]) (by simp [results, Try.results18, go_sem]) rfl ⟨⟨_, _, _, rfl, hE.out.1, hE.out.2⟩, rfl⟩
end Go.Proofs.Ytjkbhckidocclaa
