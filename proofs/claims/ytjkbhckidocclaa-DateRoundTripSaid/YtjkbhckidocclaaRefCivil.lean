/- The contract of the reference of Civil; what Civil and its reference answer is one date. -/
import Derived.Test.YtjkbhckidocclaaCivil
namespace Go.Proofs.Ytjkbhckidocclaa
open Go.RowKit

set_option maxRecDepth 20000 in
set_option maxHeartbeats 1000000 in
theorem refCivil_no (n : Int) (w : World) (h : n < -719162 ∨ 2932896 < n) :
    Calls Try.prog 20 #[.int .i64 n] w fun e w' => e = .returned (.tuple #[.int .i64 0, .int .i64 0, .int .i64 0, .int .i64 4]) ∧ w = w' := by
  rcases h with h | h
  all_goals
    go_enter Try.func20, Try.ntmps20
    go_wp2_with fail
    refine bodyPost_ret (v := .tuple #[.int .i64 0, .int .i64 0, .int .i64 0, .int .i64 4]) (by simp [results, Try.results20, go_sem]) rfl ⟨rfl, rfl⟩

set_option maxRecDepth 20000 in
set_option maxHeartbeats 1000000 in
theorem refCivil_yes (n : Int) (w : World) (h1 : -719162 ≤ n) (h2 : n ≤ 2932896) :
    Calls Try.prog 20 #[.int .i64 n] w fun e w' => IsCivil n e ∧ w = w' := by
  have hg := Cal.first_guess (n + 719162) (by omega) (by omega)
  obtain ⟨g, hgq⟩ : ∃ g, (n + 719162) / 366 = g := ⟨_, rfl⟩
  rw [hgq] at hg
  have hg0 : 0 ≤ g ∧ g ≤ 9999 := by omega
  have J1 : Hid (Cal.jan 1 ≤ n + 719162) := by
    have e : Cal.jan 1 = 0 := by decide
    show Cal.jan 1 ≤ n + 719162
    omega
  have HG := Lib.hid hg
  clear hg
  obtain ⟨hgl, hgu⟩ := hg0
  by_cases hg1 : 1 < g
  all_goals
    go_enter Try.func20, Try.ntmps20
    go_wp2_with fail
    clear hgq
    go_loop [6] (fun s => ∃ Y : Int, s = .int .i64 Y ∧ 1 ≤ Y ∧ Y ≤ 9999 ∧ Cal.jan Y ≤ n + 719162) (fun s => (10000 - intOf s).toNat)
    case atStart => exact ⟨_, rfl, by omega, by omega, by first | exact J1.out | exact (HG.out.2 (by omega)).1⟩
    case round =>
      obtain ⟨Y, rfl, Y1, Y2, HY⟩ := hrel
      have hjb := Cal.jan_bd (Y + 1) (by omega) (by omega)
      have hjb0 := Cal.jan_bd Y Y1 (by omega)
      by_cases hlt : Y < 9999 ∧ Cal.jan (Y + 1) ≤ n + 719162
      · obtain ⟨hl1, hl2⟩ := hlt
        go_wp2_with fail
        refine (january_any _ _ (by omega) (by omega)).mono ?_
        rintro e w1 ⟨rfl, rfl⟩
        go_wp2_with fail
        go_round
        case rel => exact ⟨Y + 1, rfl, by omega, by omega, hl2⟩
        case measure => simp [intOf]; omega
      · have hz : n + 719162 < Cal.jan (Y + 1) := by
          by_cases e : Y = 9999
          · subst e
            have : Cal.jan (9999 + 1) = 3652059 := by decide
            omega
          · omega
        have hr12 : n + 719162 - Cal.jan Y < Cal.cum Y 12 := by have := Cal.jan_succ Y Y1; omega
        have r0 : 0 ≤ n + 719162 - Cal.jan Y := by omega
        obtain ⟨r, hr⟩ : ∃ r, r = n + 719162 - Cal.jan Y := ⟨_, rfl⟩
        rw [← hr] at hr12 r0
        have F : ∀ j : Nat, j ≤ 11 → 0 ≤ r - Cal.cum Y j → r - Cal.cum Y j < Cal.len Y ((j : Int) + 1) → Cal.ok Y ((j : Int) + 1) (r - Cal.cum Y j + 1) = true ∧ Cal.num Y ((j : Int) + 1) (r - Cal.cum Y j + 1) = n :=
          fun j h h0 h1 => civil_end n Y r j Y1 Y2 (by omega) h h0 h1
        have HF := Lib.hid F
        have HR := Lib.hid hr
        have er : n - (Cal.jan Y - 719162) = r := by omega
        have hc12 := Cal.cum12 Y
        have r366 : r ≤ 366 := by split at hc12 <;> omega
        clear F hr hlt hc12 hjb
        by_cases hl1 : Y < 9999
        all_goals
          go_wp2_with (first | (go_at_call 26; refine (january_any _ _ (by omega) (by omega)).mono ?_; rintro e w1 ⟨rfl, rfl⟩))
          clear er
          go_loop [0, 7] (fun s m => ∃ j : Nat, j ≤ 11 ∧ m = .int .i64 ((j : Int) + 1) ∧ s = .int .i64 (r - Cal.cum Y j) ∧ 0 ≤ r - Cal.cum Y j) (fun _ m => (13 - intOf m).toNat)
          case atStart => exact ⟨0, by omega, rfl, by simp [Cal.cum], by simp [Cal.cum]; omega⟩
          case round =>
            obtain ⟨j, hj11, rfl, rfl, hj0⟩ := hrel
            have hl := Cal.len_bd Y ((j : Int) + 1)
            have hcj := Cal.cum_bd Y j
            by_cases hlt : Cal.len Y ((j : Int) + 1) ≤ r - Cal.cum Y j
            · have hj12 : j + 1 ≤ 11 := by
                rcases Nat.lt_or_ge 10 j with h | h
                · obtain rfl : j = 11 := by omega
                  have e : Cal.cum Y 12 = Cal.cum Y 11 + Cal.len Y ((11 : Int) + 1) := rfl
                  have e' : ((11 : Nat) : Int) = 11 := rfl
                  rw [e'] at hlt
                  omega
                · omega
              go_wp2_with fail
              refine (month_any Y _ _).mono ?_
              rintro e w1 ⟨rfl, rfl⟩
              go_wp2_with fail
              refine (month_any Y _ _).mono ?_
              rintro e w1 ⟨rfl, rfl⟩
              go_wp2_with fail
              go_round
              case rel => exact ⟨j + 1, hj12, by go_num, congrArg (Value.int .i64) (by simp only [Cal.cum]; omega), by simp only [Cal.cum]; omega⟩
              case measure => simp [intOf]; omega
            · have hE := Lib.hid (HF.out j hj11 hj0 (by omega))
              go_wp2_with fail
              refine (month_any Y _ _).mono ?_
              rintro e w1 ⟨rfl, rfl⟩
              go_wp2_with fail
              refine bodyPost_ret (v := .tuple #[.int .i64 Y, .int .i64 ((j : Int) + 1), .int .i64 (r - Cal.cum Y j + 1), .int .i64 0]) (by simp [results, Try.results20, go_sem]) rfl ⟨⟨_, _, _, rfl, hE.out.1, hE.out.2⟩, rfl⟩
      
/-- One number, one date. -/
theorem one_date {n : Int} {e e' : Ending} (h : IsCivil n e) (h' : IsCivil n e') : e = e' := by
  obtain ⟨y, m, d, rfl, ok, hn⟩ := h
  obtain ⟨y', m', d', rfl, ok', hn'⟩ := h'
  obtain ⟨rfl, rfl, rfl⟩ := Cal.unique y m d y' m' d' ok ok' (by rw [hn, hn'])
  rfl

/-- There is a date. -/
theorem date_of (n : Int) (h1 : -719162 ≤ n) (h2 : n ≤ 2932896) : ∃ y m d : Int, Cal.ok y m d = true ∧ Cal.num y m d = n := by
  obtain ⟨a, N1, q, b, N2, c, N3, p, k, r, y, _, _, _, _, _, _, _, _, _, _, _, _, y1, y2, hj, r0, r12⟩ := Cal.stages (n + 719162) (by omega) (by omega)
  have go : ∀ j : Nat, j ≤ 12 → r < Cal.cum y j → ∃ i : Nat, i < j ∧ 0 ≤ r - Cal.cum y i ∧ r - Cal.cum y i < Cal.len y ((i : Int) + 1) := by
    intro j
    induction j with
    | zero => intro _ h; simp [Cal.cum] at h; omega
    | succ j ih =>
      intro hj h
      by_cases hr : r < Cal.cum y j
      · obtain ⟨i, hi, h⟩ := ih (by omega) hr
        exact ⟨i, by omega, h⟩
      · refine ⟨j, by omega, by omega, ?_⟩
        simp only [Cal.cum] at h
        omega
  obtain ⟨i, hi, h3, h4⟩ := go 12 (Nat.le_refl _) r12
  obtain ⟨ok, num⟩ := civil_end n y r i y1 y2 hj (by omega) h3 h4
  exact ⟨_, _, _, ok, num⟩

/-- What Civil answers. -/
def civilOf (n y m d : Int) : Prop := Cal.ok y m d = true ∧ Cal.num y m d = n

theorem civil_at (n y m d : Int) (w : World) (h : civilOf n y m d) :
    Calls Try.prog 18 #[.int .i64 n] w fun e w' => e = .returned (.tuple #[.int .i64 y, .int .i64 m, .int .i64 d, .int .i64 0]) ∧ w = w' := by
  obtain ⟨h1, h2⟩ := h
  have hb := Cal.num_bd y m d h1
  refine (civil_yes n w (by omega) (by omega)).mono ?_
  rintro e w' ⟨he, rfl⟩
  exact ⟨one_date he ⟨y, m, d, rfl, h1, h2⟩, rfl⟩

theorem refCivil_at (n y m d : Int) (w : World) (h : civilOf n y m d) :
    Calls Try.prog 20 #[.int .i64 n] w fun e w' => e = .returned (.tuple #[.int .i64 y, .int .i64 m, .int .i64 d, .int .i64 0]) ∧ w = w' := by
  obtain ⟨h1, h2⟩ := h
  have hb := Cal.num_bd y m d h1
  refine (refCivil_yes n w (by omega) (by omega)).mono ?_
  rintro e w' ⟨he, rfl⟩
  exact ⟨one_date he ⟨y, m, d, rfl, h1, h2⟩, rfl⟩

set_option maxRecDepth 20000 in
set_option maxHeartbeats 400000 in
theorem day_any (n : Int) (w : World) : Calls Try.prog 19 #[.int .i64 n] w fun e w' => e = .returned (.int .i64 (pick n 3652059 - 719162)) ∧ w = w' := by
  have hpk := pick_bd n 3652059 (by omega)
  go_enter Try.func19, Try.ntmps19
  go_wp2_with fail
  refine (pick_any _ _ _ (by omega) (by omega)).mono ?_
  rintro e w1 ⟨rfl, rfl⟩
  go_wp2_with fail
  go_ret
  exact ⟨congrArg (fun z => Ending.returned (Value.int .i64 z)) (by omega), rfl⟩
end Go.Proofs.Ytjkbhckidocclaa
