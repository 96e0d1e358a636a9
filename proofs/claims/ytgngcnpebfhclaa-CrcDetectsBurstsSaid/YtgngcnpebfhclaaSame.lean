/- Same of two equal rows is true; Pick; the law CrcTable. -/
import Derived.Test.YtgngcnpebfhclaaAwake
namespace Go.Proofs.Ytgngcnpebfhclaa
open Go.RowKit

set_option maxRecDepth 20000 in
set_option maxHeartbeats 400000 in
theorem same_any (a b : Option Addr) (n ca cb : Nat) (l : List Nat) (w : World) (ha : NatsIn .u32 w a n l) (hb : NatsIn .u32 w b n l) :
    Calls Try.prog 20 #[.slice a n ca, .slice b n cb] w fun e w' => e = .returned (.bool true) ∧ Below w.heap.size w w' := by
  have HA := Lib.hid ha
  have HB := Lib.hid hb
  have hr := ha.reach
  clear ha hb
  go_enter Try.func20, Try.ntmps20
  go_wp2_with fail
  go_loopw [13] (fun i wr => ∃ k : Nat, k ≤ n ∧ i = .int .i64 k ∧ Below w.heap.size w wr) (fun i _ => n - (intOf i).toNat)
  case atStart => exact ⟨0, Nat.zero_le _, rfl, Below.refl _ _⟩
  case round =>
    obtain ⟨k, hk, rfl, hbel⟩ := hrel
    by_cases hlt : k < n
    · obtain ⟨b1, o1, rfl, hl1, hc1⟩ := (HA.out.later hbel).cells k hlt
      obtain ⟨b2, o2, rfl, hl2, hc2⟩ := (HB.out.later hbel).cells k hlt
      have h1 : (0 : Int) ≤ (k : Int) := by omega
      have h2 : (k : Int) < (n : Int) := by omega
      generalize l.getD k 0 = x at hc1 hc2
      go_wp2_with fail
      go_quiet (fail)
      go_wp2_with fail
      go_roundw
      case rel => exact ⟨k + 1, by omega, by go_num, below_drewN hbel _⟩
      case measure => simp [intOf]; omega
    · go_wp2_with fail
      go_ret
      exact ⟨rfl, hbel⟩

/-- Pick's number. -/
def pick (v n : Int) : Int := IntKind.u64.wrap v % n
theorem pick_bd (v n : Int) (h : 1 ≤ n) : 0 ≤ pick v n ∧ pick v n < n :=
  ⟨Int.emod_nonneg _ (by omega), Int.emod_lt_of_pos _ (by omega)⟩

theorem pick_walk (v n : Int) (h1 : 1 ≤ n) (h2 : n ≤ 1000000000000000) : wrap64 ((IntKind.u64.wrap v).tmod n) = pick v n := by
  have hb := pick_bd v n h1
  rw [Int.tmod_eq_emod_of_nonneg (wrap_u64_nonneg v)]
  show wrap64 (pick v n) = pick v n
  exact IntWalk.wrap64_in _ (by omega)

set_option maxRecDepth 20000 in
set_option maxHeartbeats 400000 in
theorem pick_any (v n : Int) (w : World) (h1 : 1 ≤ n) (h2 : n ≤ 1000000000000000) :
    Calls Try.prog 13 #[.int .i64 v, .int .i64 n] w fun e w' => e = .returned (.int .i64 (pick v n)) ∧ w = w' := by
  go_enter Try.func13, Try.ntmps13
  go_wp2_with fail
  go_ret
  exact ⟨congrArg (fun z => Ending.returned (Value.int .i64 z)) (pick_walk v n h1 h2), rfl⟩

set_option maxRecDepth 20000 in
set_option maxHeartbeats 400000 in
theorem law_table (w : World) :
    Calls Try.prog 7 #[] w fun e w' => e = .returned (.bool true) ∧ Below w.heap.size w w' := by
  go_enter Try.func7, Try.ntmps7
  go_wp2_with fail
  refine (awake_any _).mono ?_
  rintro e w1 ⟨rfl, hb1⟩
  go_wp2_with fail
  refine (table_any _).mono ?_
  rintro e w2 ⟨v, rfl, hown, hb2⟩
  obtain ⟨g, cap, rfl, _, _, _, hin⟩ := owned hown (by omega) (by omega)
  clear hown
  have HIN := Lib.hid hin
  clear hin
  go_wp2_with fail
  refine (refTable_any _).mono ?_
  rintro e w3 ⟨v, rfl, hown, hb3⟩
  obtain ⟨g', cap', rfl, _, _, _, hin⟩ := owned hown (by omega) (by omega)
  clear hown
  have HIN2 := Lib.hid hin
  clear hin
  go_wp2_with fail
  refine (same_any _ _ _ _ _ _ _ (HIN.out.later hb3) HIN2.out).mono ?_
  rintro e w4 ⟨rfl, hb4⟩
  have hb12 := hb1.trans (hb2.mono hb1.size)
  have hb123 := hb12.trans (hb3.mono hb12.size)
  have hb := hb123.trans (hb4.mono hb123.size)
  clear hb1 hb2 hb3 hb12 hb4 hb123
  go_wp2_with fail
  go_ret
  exact ⟨rfl, hb⟩
end Go.Proofs.Ytgngcnpebfhclaa
