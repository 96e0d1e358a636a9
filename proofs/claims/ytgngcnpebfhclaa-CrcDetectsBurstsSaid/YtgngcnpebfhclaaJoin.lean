/- The contracts of crc.Join and of its reference, for every table. -/
import Derived.Test.YtgngcnpebfhclaaSame
namespace Go.Proofs.Ytgngcnpebfhclaa
open Go.RowKit

theorem join_other {t : List Nat} {a b : Nat} {n : Int} (h : ¬ (t.length = 256 ∧ 0 ≤ n ∧ n ≤ 1073741824)) : Cs.join t a b n = 0 := by unfold Cs.join; rw [if_neg h]

set_option maxRecDepth 20000 in
set_option maxHeartbeats 400000 in
theorem join_zero (a : Option Addr) (n cap : Nat) (l : List Nat) (x y : Nat) (m : Int) (w : World) (hl : l.length = n) (h : n ≠ 256 ∨ (n = 256 ∧ m < 0) ∨ (n = 256 ∧ 1073741824 < m)) :
    Calls Try.prog 15 #[.slice a n cap, .int .u32 (x : Int), .int .u32 (y : Int), .int .i64 m] w fun e w' => e = .returned (.int .u32 ((Cs.join l x y m : Nat) : Int)) ∧ w = w' := by
  have h0 : Cs.join l x y m = 0 := join_other (by omega)
  rw [h0]
  clear h0 hl
  rcases h with h | ⟨rfl, h⟩ | ⟨rfl, h⟩
  · have hne : ((n : Int) != 256) = true := by rw [bne_iff_ne]; omega
    go_enter Try.func15, Try.ntmps15
    go_wp2_with fail
    go_ret
    exact ⟨rfl, rfl⟩
  · have hne : decide (m < 0) = true := decide_eq_true (by omega)
    go_enter Try.func15, Try.ntmps15
    go_wp2_with fail
    go_ret
    exact ⟨rfl, rfl⟩
  · have hne : decide (m < 0) = false := decide_eq_false (by omega)
    have hne2 : decide (1073741824 < m) = true := decide_eq_true (by omega)
    go_enter Try.func15, Try.ntmps15
    go_wp2_with fail
    go_ret
    exact ⟨rfl, rfl⟩

set_option maxRecDepth 20000 in
set_option maxHeartbeats 400000 in
theorem refJoin_zero (a : Option Addr) (n cap : Nat) (l : List Nat) (x y : Nat) (m : Int) (w : World) (hl : l.length = n) (h : n ≠ 256 ∨ (n = 256 ∧ m < 0) ∨ (n = 256 ∧ 1073741824 < m)) :
    Calls Try.prog 16 #[.slice a n cap, .int .u32 (x : Int), .int .u32 (y : Int), .int .i64 m] w fun e w' => e = .returned (.int .u32 ((Cs.join l x y m : Nat) : Int)) ∧ w = w' := by
  have h0 : Cs.join l x y m = 0 := join_other (by omega)
  rw [h0]
  clear h0 hl
  rcases h with h | ⟨rfl, h⟩ | ⟨rfl, h⟩
  · have hne : ((n : Int) != 256) = true := by rw [bne_iff_ne]; omega
    go_enter Try.func16, Try.ntmps16
    go_wp2_with fail
    go_ret
    exact ⟨rfl, rfl⟩
  · have hne : decide (m < 0) = true := decide_eq_true (by omega)
    go_enter Try.func16, Try.ntmps16
    go_wp2_with fail
    go_ret
    exact ⟨rfl, rfl⟩
  · have hne : decide (m < 0) = false := decide_eq_false (by omega)
    have hne2 : decide (1073741824 < m) = true := decide_eq_true (by omega)
    go_enter Try.func16, Try.ntmps16
    go_wp2_with fail
    go_ret
    exact ⟨rfl, rfl⟩

set_option maxRecDepth 20000 in
set_option maxHeartbeats 400000 in
theorem join_256 (a : Option Addr) (cap : Nat) (l : List Nat) (x y m : Nat) (w : World) (hin : NatsIn .u32 w a 256 l) (hf : Cs.fits l) (hx : x < 4294967296) (hy : y < 4294967296) (hm : m ≤ 1073741824) :
    Calls Try.prog 15 #[.slice a 256 cap, .int .u32 (x : Int), .int .u32 (y : Int), .int .i64 (m : Int)] w fun e w' => e = .returned (.int .u32 ((Cs.join l x y (m : Int) : Nat) : Int)) ∧ w = w' := by
  have HJ : Hid (Cs.join l x y (m : Int) = Cs.run l x (List.replicate m 0) ^^^ y) := by
    show Cs.join _ _ _ _ = _
    unfold Cs.join
    rw [if_pos ⟨hin.len, by omega, by omega⟩, Int.toNat_natCast]
  have HIN := Lib.hid hin
  have HF := Lib.hid hf
  have HX := Lib.hid hx
  have HY := Lib.hid hy
  clear hin hf hx hy
  have hne : decide ((m : Int) < 0) = false := decide_eq_false (by omega)
  have hne2 : decide (1073741824 < (m : Int)) = false := decide_eq_false (by omega)
  go_enter Try.func15, Try.ntmps15
  go_wp2_with fail
  go_loop [1, 21] (fun v i => ∃ k : Nat, k ≤ m ∧ i = .int .i64 k ∧ v = .int .u32 ((Cs.run l x (List.replicate k 0) : Nat) : Int)) (fun _ i => m - (intOf i).toNat)
  case atStart => exact ⟨0, Nat.zero_le _, rfl, rfl⟩
  case round =>
    obtain ⟨k, hk, rfl, rfl⟩ := hrel
    have hv := Cs.run_lt HF.out (List.replicate k 0) x HX.out
    by_cases hlt : k < m
    · have HR := Lib.hid (Cs.run_rep l x k)
      generalize Cs.run l x (List.replicate k 0) = v at hv HR
      have HV := Lib.hid hv
      clear hv
      go_wp2_with fail
      refine (step_any a cap l v 0 _ HIN.out HF.out HV.out (by decide)).mono ?_
      rintro e w' ⟨rfl, rfl⟩
      go_wp2_with fail
      go_round
      case rel => exact ⟨k + 1, by omega, by go_num, by rw [HR.out]⟩
      case measure => simp [intOf]; omega
    · obtain rfl : k = m := by omega
      have hn := Cs.walk_xor _ y hv HY.out
      rw [← HJ.out] at hn
      clear HJ hv
      obtain ⟨z, hz⟩ : ∃ z, z = Cs.join l x y (k : Int) := ⟨_, rfl⟩
      rw [← hz] at hn
      have HZ := Lib.hid hz
      clear hz
      go_wp2_with fail
      go_ret
      exact ⟨by rw [← HZ.out]; exact rfl, rfl⟩

set_option maxRecDepth 20000 in
set_option maxHeartbeats 400000 in
theorem refJoin_256 (a : Option Addr) (cap : Nat) (l : List Nat) (x y m : Nat) (w : World) (hin : NatsIn .u32 w a 256 l) (hf : Cs.fits l) (hx : x < 4294967296) (hy : y < 4294967296) (hm : m ≤ 1073741824) :
    Calls Try.prog 16 #[.slice a 256 cap, .int .u32 (x : Int), .int .u32 (y : Int), .int .i64 (m : Int)] w fun e w' => e = .returned (.int .u32 ((Cs.join l x y (m : Int) : Nat) : Int)) ∧ w = w' := by
  have HJ : Hid (Cs.join l x y (m : Int) = Cs.run l x (List.replicate m 0) ^^^ y) := by
    show Cs.join _ _ _ _ = _
    unfold Cs.join
    rw [if_pos ⟨hin.len, by omega, by omega⟩, Int.toNat_natCast]
  have HIN := Lib.hid hin
  have HF := Lib.hid hf
  have HX := Lib.hid hx
  have HY := Lib.hid hy
  obtain ⟨bl, off, rfl, _, _⟩ := hin.cells 0 (by omega)
  clear hin hf hx hy
  have hne : decide ((m : Int) < 0) = false := decide_eq_false (by omega)
  have hne2 : decide (1073741824 < (m : Int)) = false := decide_eq_false (by omega)
  go_enter Try.func16, Try.ntmps16
  go_wp2_with fail
  go_loop [9, 10] (fun v i => ∃ k : Nat, k ≤ m ∧ i = .int .i64 k ∧ v = .int .u32 ((Cs.run l x (List.replicate k 0) : Nat) : Int)) (fun _ i => m - (intOf i).toNat)
  case atStart => exact ⟨0, Nat.zero_le _, rfl, rfl⟩
  case round =>
    obtain ⟨k, hk, rfl, rfl⟩ := hrel
    have hv := Cs.run_lt HF.out (List.replicate k 0) x HX.out
    by_cases hlt : k < m
    · have HR := Lib.hid (Cs.run_rep l x k)
      generalize Cs.run l x (List.replicate k 0) = v at hv HR
      have hst := Cs.walk_step HF.out v 0 hv
      obtain ⟨bl', off', hcat, hltb, hc⟩ := HIN.out.cells (v % 256 ^^^ 0) (Cs.xor_idx v 0 (by decide))
      simp only [Option.some.injEq, Addr.mk.injEq, and_true] at hcat
      obtain ⟨rfl, rfl⟩ := hcat
      rw [Nat.xor_zero] at hc hst
      generalize l.getD (v % 256) 0 = u at hc hst
      clear hv
      go_wp2_with fail
      go_round
      case rel => exact ⟨k + 1, by omega, by go_num, by rw [HR.out]⟩
      case measure => simp [intOf]; omega
    · obtain rfl : k = m := by omega
      have hn := Cs.walk_xor _ y hv HY.out
      rw [← HJ.out] at hn
      clear HJ hv
      obtain ⟨z, hz⟩ : ∃ z, z = Cs.join l x y (k : Int) := ⟨_, rfl⟩
      rw [← hz] at hn
      have HZ := Lib.hid hz
      clear hz
      go_wp2_with fail
      go_ret
      exact ⟨by rw [← HZ.out]; exact rfl, rfl⟩

theorem join_any (a : Option Addr) (n cap : Nat) (l : List Nat) (x y : Nat) (m : Int) (w : World) (hin : NatsIn .u32 w a n l) (hf : Cs.fits l) (hx : x < 4294967296) (hy : y < 4294967296) :
    Calls Try.prog 15 #[.slice a n cap, .int .u32 (x : Int), .int .u32 (y : Int), .int .i64 m] w fun e w' => e = .returned (.int .u32 ((Cs.join l x y m : Nat) : Int)) ∧ w = w' := by
  by_cases h : n = 256 ∧ 0 ≤ m ∧ m ≤ 1073741824
  · obtain ⟨rfl, h0, h1⟩ := h
    obtain ⟨k, rfl⟩ := Int.eq_ofNat_of_zero_le h0
    exact join_256 a cap l x y k w hin hf hx hy (by omega)
  · exact join_zero a n cap l x y m w hin.len (by omega)

theorem refJoin_any (a : Option Addr) (n cap : Nat) (l : List Nat) (x y : Nat) (m : Int) (w : World) (hin : NatsIn .u32 w a n l) (hf : Cs.fits l) (hx : x < 4294967296) (hy : y < 4294967296) :
    Calls Try.prog 16 #[.slice a n cap, .int .u32 (x : Int), .int .u32 (y : Int), .int .i64 m] w fun e w' => e = .returned (.int .u32 ((Cs.join l x y m : Nat) : Int)) ∧ w = w' := by
  by_cases h : n = 256 ∧ 0 ≤ m ∧ m ≤ 1073741824
  · obtain ⟨rfl, h0, h1⟩ := h
    obtain ⟨k, rfl⟩ := Int.eq_ofNat_of_zero_le h0
    exact refJoin_256 a cap l x y k w hin hf hx hy (by omega)
  · exact refJoin_zero a n cap l x y m w hin.len (by omega)
end Go.Proofs.Ytgngcnpebfhclaa
