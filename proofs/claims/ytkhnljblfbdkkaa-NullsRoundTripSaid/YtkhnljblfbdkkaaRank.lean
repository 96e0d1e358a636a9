/- Plain laws on the bits of a bitmap: how many are ones, how many are zeros. -/
import Derived.Test.YtkhnljblfbdkkaaBits
namespace Go.Proofs.Ytkhnljblfbdkkaa
open Go.RowKit
namespace Bm

/-- The bytes of a string as numbers. -/
def bytes (s : ByteArray) : List Nat := s.data.toList.map UInt8.toNat

/-- Bit i of a bitmap. -/
def bit (bs : List Nat) (i : Nat) : Bool := (bs.getD (i / 8) 0).testBit (i % 8)

/-- The ones, and the zeros, among the first k bits. -/
def ones (bs : List Nat) : Nat → Nat
  | 0 => 0
  | k + 1 => ones bs k + if bit bs k then 1 else 0
def zeros (bs : List Nat) : Nat → Nat
  | 0 => 0
  | k + 1 => zeros bs k + if bit bs k then 0 else 1

theorem ones_zeros (bs : List Nat) (k : Nat) : ones bs k + zeros bs k = k := by
  induction k with
  | zero => rfl
  | succ k ih => simp only [ones, zeros]; split <;> omega

theorem zeros_mono (bs : List Nat) (j k : Nat) (h : j ≤ k) : zeros bs j ≤ zeros bs k := by
  induction k with
  | zero => have : j = 0 := by omega
            subst this; exact Nat.le_refl _
  | succ k ih =>
    by_cases hj : j = k + 1
    · subst hj; exact Nat.le_refl _
    · have := ih (by omega); simp only [zeros]; omega

theorem ones_byte (bs : List Nat) (k j : Nat) (h : j ≤ 8) : ones bs (8 * k + j) = ones bs (8 * k) + pop (bs.getD k 0) j := by
  induction j with
  | zero => rfl
  | succ j ih =>
    rw [← Nat.add_assoc]
    simp only [ones, pop]
    rw [ih (by omega)]
    unfold bit
    rw [show (8 * k + j) / 8 = k from by omega, show (8 * k + j) % 8 = j from by omega]
    omega

theorem length_bytes (s : ByteArray) : (bytes s).length = s.size := by
  show (s.data.toList.map UInt8.toNat).length = s.data.size
  rw [List.length_map, Array.length_toList]

theorem bytes_get (s : ByteArray) (k : Nat) (h : k < s.size) : (bytes s).getD k 0 = s[k].toNat := by
  have h' : k < s.data.size := h
  have e : (bytes s)[k]? = some (s.data[k].toNat) := by
    show (s.data.toList.map UInt8.toNat)[k]? = _
    rw [List.getElem?_map, Array.getElem?_toList, Array.getElem?_eq_getElem h']; rfl
  rw [List.getD_eq_getElem?_getD, e]; rfl

theorem bit_at (s : ByteArray) (k : Nat) (h : k / 8 < s.size) : bit (bytes s) k = s[k / 8].toNat.testBit (k % 8) := by
  unfold bit; rw [bytes_get s _ h]

/-- A number of bits, cut to those that there are. -/
def clamp (i : Int) (n : Nat) : Nat := (max 0 (min i (n : Int))).toNat

theorem clamp_neg {i : Int} {n : Nat} (h : i ≤ 0) : clamp i n = 0 := by unfold clamp; omega
theorem clamp_big {i : Int} {n : Nat} (h : (n : Int) ≤ i) : clamp i n = n := by unfold clamp; omega
theorem clamp_in {i n : Nat} (h : i ≤ n) : clamp (i : Int) n = i := by unfold clamp; omega

end Bm

theorem bit_in (s : ByteArray) (k : Nat) (w : World) (hs : s.size ≤ 140737488351232) (hk : k < 8 * s.size) :
    Calls Try.prog 21 #[.string s, .int .i64 (k : Int)] w fun e w' => e = .returned (.bool (Bm.bit (Bm.bytes s) k)) ∧ w = w' := by
  rw [Bm.bit_at s k (by omega)]
  exact bit_any s k w hs (by omega)
theorem refBit_in (s : ByteArray) (k : Nat) (w : World) (hs : s.size ≤ 140737488351232) (hk : k < 8 * s.size) :
    Calls Try.prog 23 #[.string s, .int .i64 (k : Int)] w fun e w' => e = .returned (.bool (Bm.bit (Bm.bytes s) k)) ∧ w = w' := by
  rw [Bm.bit_at s k (by omega)]
  exact refBit_any s k w hs (by omega)

set_option maxRecDepth 20000 in
set_option maxHeartbeats 400000 in
theorem count_any (s : ByteArray) (w : World) (hs : s.size ≤ 140737488351232) :
    Calls Try.prog 18 #[.string s] w fun e w' => e = .returned (.int .i64 ((Bm.ones (Bm.bytes s) (8 * s.size) : Nat) : Int)) ∧ w = w' := by
  go_enter Try.func18, Try.ntmps18
  go_wp2_with fail
  go_loop [3, 7] (fun n i => ∃ k : Nat, k ≤ s.size ∧ i = .int .i64 k ∧ n = .int .i64 ((Bm.ones (Bm.bytes s) (8 * k) : Nat) : Int)) (fun _ i => s.size - (intOf i).toNat)
  case atStart => exact ⟨0, Nat.zero_le _, rfl, rfl⟩
  case round =>
    obtain ⟨k, hk, rfl, rfl⟩ := hrel
    by_cases hlt : k < s.size
    · have ho := Bm.ones_byte (Bm.bytes s) k 8 (Nat.le_refl _)
      rw [Bm.bytes_get s k hlt] at ho
      have hz := Bm.ones_zeros (Bm.bytes s) (8 * k)
      have hp := pop_le s[k].toNat 8
      have hb : Bm.ones (Bm.bytes s) (8 * k) ≤ 1125899906842624 := by omega
      have HO := Lib.hid ho
      have HC : Hid (s[k].toNat < 256) := s[k].toNat_lt
      generalize Bm.ones (Bm.bytes s) (8 * k) = n at hb HO
      clear ho hz
      go_wp2_with fail
      refine (ones8_any _ _ HC.out).mono ?_
      rintro e w1 ⟨rfl, rfl⟩
      generalize pop s[k].toNat 8 = q at hp HO
      go_wp2_with fail
      go_round
      case rel =>
        refine ⟨k + 1, by omega, by go_num, congrArg (Value.int .i64) ?_⟩
        rw [show 8 * (k + 1) = 8 * k + 8 from by omega, HO.out]; omega
      case measure => simp [intOf]; omega
    · obtain rfl : k = s.size := by omega
      go_wp2_with fail
      go_ret
      exact ⟨rfl, rfl⟩

set_option maxRecDepth 20000 in
set_option maxHeartbeats 400000 in
theorem refCount_any (s : ByteArray) (w : World) (hs : s.size ≤ 140737488351232) :
    Calls Try.prog 19 #[.string s] w fun e w' => e = .returned (.int .i64 ((Bm.ones (Bm.bytes s) (8 * s.size) : Nat) : Int)) ∧ w = w' := by
  go_enter Try.func19, Try.ntmps19
  go_wp2_with fail
  go_loop [3, 4] (fun n i => ∃ k : Nat, k ≤ 8 * s.size ∧ i = .int .i64 k ∧ n = .int .i64 ((Bm.ones (Bm.bytes s) k : Nat) : Int)) (fun _ i => 8 * s.size - (intOf i).toNat)
  case atStart => exact ⟨0, Nat.zero_le _, rfl, rfl⟩
  case round =>
    obtain ⟨k, hk, rfl, rfl⟩ := hrel
    have hz := Bm.ones_zeros (Bm.bytes s) k
    have hb : Bm.ones (Bm.bytes s) k ≤ 1125899906842624 := by omega
    by_cases hlt : k < 8 * s.size
    · have hlt' : (k : Int) < 8 * (s.size : Int) := by omega
      cases hbit : Bm.bit (Bm.bytes s) k
      · have HO : Hid (Bm.ones (Bm.bytes s) (k + 1) = Bm.ones (Bm.bytes s) k) := by
          show _ = _
          simp only [Bm.ones, hbit]; simp
        have HB := Lib.hid hbit
        generalize Bm.ones (Bm.bytes s) k = n at hb HO hz
        clear hbit hz
        go_wp2_with fail
        refine (refBit_in s k _ hs hlt).mono ?_
        rw [HB.out]
        rintro e w1 ⟨rfl, rfl⟩
        go_wp2_with fail
        go_round
        case rel => exact ⟨k + 1, by omega, by go_num, by rw [HO.out]⟩
        case measure => simp [intOf]; omega
      · have HO : Hid (Bm.ones (Bm.bytes s) (k + 1) = Bm.ones (Bm.bytes s) k + 1) := by
          show _ = _
          simp only [Bm.ones, hbit]; simp
        have HB := Lib.hid hbit
        generalize Bm.ones (Bm.bytes s) k = n at hb HO hz
        clear hbit hz
        go_wp2_with fail
        refine (refBit_in s k _ hs hlt).mono ?_
        rw [HB.out]
        rintro e w1 ⟨rfl, rfl⟩
        go_wp2_with fail
        go_round
        case rel => exact ⟨k + 1, by omega, by go_num, by rw [HO.out]; go_num⟩
        case measure => simp [intOf]; omega
    · obtain rfl : k = 8 * s.size := by omega
      clear hz
      go_wp2_with fail
      go_ret
      exact ⟨rfl, rfl⟩

set_option maxRecDepth 20000 in
set_option maxHeartbeats 1000000 in
theorem rank_any (s : ByteArray) (i : Int) (w : World) (hs : s.size ≤ 140737488351232) :
    Calls Try.prog 17 #[.string s, .int .i64 i] w fun e w' => e = .returned (.int .i64 ((Bm.zeros (Bm.bytes s) (Bm.clamp i (8 * s.size)) : Nat) : Int)) ∧ w = w' := by
  obtain ⟨m, hm⟩ : ∃ m, m = Bm.clamp i (8 * s.size) := ⟨_, rfl⟩
  rw [← hm]
  have hm8 : m ≤ 8 * s.size := by rw [hm]; unfold Bm.clamp; omega
  have hi : (i ≤ 0 ∧ m = 0) ∨ (0 < i ∧ i ≤ 8 * (s.size : Int) ∧ (m : Int) = i) ∨ (0 < i ∧ 8 * (s.size : Int) < i ∧ m = 8 * s.size) := by
    rw [hm]; unfold Bm.clamp; omega
  clear hm
  rcases hi with ⟨h1, rfl⟩ | ⟨h1, h2, h3⟩ | ⟨h1, h2, rfl⟩
  · go_enter Try.func17, Try.ntmps17
    go_wp2_with fail
    go_loop [5, 14] (fun n i => ∃ k : Nat, k ≤ 0 ∧ i = .int .i64 k ∧ n = .int .i64 ((Bm.zeros (Bm.bytes s) k : Nat) : Int)) (fun _ i => 0 - (intOf i).toNat)
    case atStart => exact ⟨0, Nat.zero_le _, rfl, rfl⟩
    case round =>
      obtain ⟨k, hk, rfl, rfl⟩ := hrel
      have hz := Bm.ones_zeros (Bm.bytes s) k
      have hb : Bm.zeros (Bm.bytes s) k ≤ 1125899906842624 := by omega
      by_cases hlt : k < 0
      · exact absurd hlt (by omega)
      · obtain rfl : k = 0 := by omega
        clear hz
        go_wp2_with fail
        go_ret
        exact ⟨rfl, rfl⟩
  · subst h3
    go_enter Try.func17, Try.ntmps17
    go_wp2_with fail
    go_loop [5, 14] (fun n i => ∃ k : Nat, k ≤ m ∧ i = .int .i64 k ∧ n = .int .i64 ((Bm.zeros (Bm.bytes s) k : Nat) : Int)) (fun _ i => m - (intOf i).toNat)
    case atStart => exact ⟨0, Nat.zero_le _, rfl, rfl⟩
    case round =>
      obtain ⟨k, hk, rfl, rfl⟩ := hrel
      have hz := Bm.ones_zeros (Bm.bytes s) k
      have hb : Bm.zeros (Bm.bytes s) k ≤ 1125899906842624 := by omega
      by_cases hlt : k < m
      · cases hbit : Bm.bit (Bm.bytes s) k
        · have HO : Hid (Bm.zeros (Bm.bytes s) (k + 1) = Bm.zeros (Bm.bytes s) k + 1) := by
            show _ = _
            simp only [Bm.zeros, hbit]; simp
          have HB := Lib.hid hbit
          generalize Bm.zeros (Bm.bytes s) k = n at hb HO hz
          clear hbit hz
          go_wp2_with fail
          refine (bit_in s k _ hs (by omega)).mono ?_
          rw [HB.out]
          rintro e w1 ⟨rfl, rfl⟩
          go_wp2_with fail
          go_round
          case rel => exact ⟨k + 1, by omega, by go_num, by rw [HO.out]; go_num⟩
          case measure => simp [intOf]; omega
        · have HO : Hid (Bm.zeros (Bm.bytes s) (k + 1) = Bm.zeros (Bm.bytes s) k) := by
            show _ = _
            simp only [Bm.zeros, hbit]; simp
          have HB := Lib.hid hbit
          generalize Bm.zeros (Bm.bytes s) k = n at hb HO hz
          clear hbit hz
          go_wp2_with fail
          refine (bit_in s k _ hs (by omega)).mono ?_
          rw [HB.out]
          rintro e w1 ⟨rfl, rfl⟩
          go_wp2_with fail
          go_round
          case rel => exact ⟨k + 1, by omega, by go_num, by rw [HO.out]⟩
          case measure => simp [intOf]; omega
      · obtain rfl : k = m := by omega
        clear hz
        go_wp2_with fail
        go_ret
        exact ⟨rfl, rfl⟩
  · by_cases hs0 : 0 < s.size
    · go_enter Try.func17, Try.ntmps17
      go_wp2_with fail
      go_loop [5, 14] (fun n i => ∃ k : Nat, k ≤ 8 * s.size ∧ i = .int .i64 k ∧ n = .int .i64 ((Bm.zeros (Bm.bytes s) k : Nat) : Int)) (fun _ i => 8 * s.size - (intOf i).toNat)
      case atStart => exact ⟨0, Nat.zero_le _, rfl, rfl⟩
      case round =>
        obtain ⟨k, hk, rfl, rfl⟩ := hrel
        have hz := Bm.ones_zeros (Bm.bytes s) k
        have hb : Bm.zeros (Bm.bytes s) k ≤ 1125899906842624 := by omega
        by_cases hlt : k < 8 * s.size
        · have hlt' : (k : Int) < 8 * (s.size : Int) := by omega
          cases hbit : Bm.bit (Bm.bytes s) k
          · have HO : Hid (Bm.zeros (Bm.bytes s) (k + 1) = Bm.zeros (Bm.bytes s) k + 1) := by
              show _ = _
              simp only [Bm.zeros, hbit]; simp
            have HB := Lib.hid hbit
            generalize Bm.zeros (Bm.bytes s) k = n at hb HO hz
            clear hbit hz
            go_wp2_with fail
            refine (bit_in s k _ hs (by omega)).mono ?_
            rw [HB.out]
            rintro e w1 ⟨rfl, rfl⟩
            go_wp2_with fail
            go_round
            case rel => exact ⟨k + 1, by omega, by go_num, by rw [HO.out]; go_num⟩
            case measure => simp [intOf]; omega
          · have HO : Hid (Bm.zeros (Bm.bytes s) (k + 1) = Bm.zeros (Bm.bytes s) k) := by
              show _ = _
              simp only [Bm.zeros, hbit]; simp
            have HB := Lib.hid hbit
            generalize Bm.zeros (Bm.bytes s) k = n at hb HO hz
            clear hbit hz
            go_wp2_with fail
            refine (bit_in s k _ hs (by omega)).mono ?_
            rw [HB.out]
            rintro e w1 ⟨rfl, rfl⟩
            go_wp2_with fail
            go_round
            case rel => exact ⟨k + 1, by omega, by go_num, by rw [HO.out]⟩
            case measure => simp [intOf]; omega
        · obtain rfl : k = 8 * s.size := by omega
          clear hz
          go_wp2_with fail
          go_ret
          exact ⟨rfl, rfl⟩
    · go_enter Try.func17, Try.ntmps17
      go_wp2_with fail
      go_loop [5, 14] (fun n i => ∃ k : Nat, k ≤ 8 * s.size ∧ i = .int .i64 k ∧ n = .int .i64 ((Bm.zeros (Bm.bytes s) k : Nat) : Int)) (fun _ i => 8 * s.size - (intOf i).toNat)
      case atStart => exact ⟨0, Nat.zero_le _, rfl, rfl⟩
      case round =>
        obtain ⟨k, hk, rfl, rfl⟩ := hrel
        have hz := Bm.ones_zeros (Bm.bytes s) k
        have hb : Bm.zeros (Bm.bytes s) k ≤ 1125899906842624 := by omega
        by_cases hlt : k < 8 * s.size
        · exact absurd hlt (by omega)
        · obtain rfl : k = 8 * s.size := by omega
          clear hz
          go_wp2_with fail
          go_ret
          exact ⟨rfl, rfl⟩

set_option maxRecDepth 20000 in
set_option maxHeartbeats 1000000 in
theorem refRank_any (s : ByteArray) (i : Int) (w : World) (hs : s.size ≤ 140737488351232) :
    Calls Try.prog 20 #[.string s, .int .i64 i] w fun e w' => e = .returned (.int .i64 ((Bm.zeros (Bm.bytes s) (Bm.clamp i (8 * s.size)) : Nat) : Int)) ∧ w = w' := by
  obtain ⟨m, hm⟩ : ∃ m, m = Bm.clamp i (8 * s.size) := ⟨_, rfl⟩
  rw [← hm]
  have hm8 : m ≤ 8 * s.size := by rw [hm]; unfold Bm.clamp; omega
  have hi : (i ≤ 0 ∧ m = 0) ∨ (0 < i ∧ i ≤ 8 * (s.size : Int) ∧ (m : Int) = i) ∨ (0 < i ∧ 8 * (s.size : Int) < i ∧ m = 8 * s.size) := by
    rw [hm]; unfold Bm.clamp; omega
  clear hm
  rcases hi with ⟨h1, rfl⟩ | ⟨h1, h2, h3⟩ | ⟨h1, h2, rfl⟩
  · have e0 : decide ((0 : Int) < i) = false := decide_eq_false (by omega)
    go_enter Try.func20, Try.ntmps20
    go_wp2_with fail
    go_loop [5, 6] (fun n i => ∃ k : Nat, k ≤ 0 ∧ i = .int .i64 k ∧ n = .int .i64 ((Bm.zeros (Bm.bytes s) k : Nat) : Int)) (fun _ i => 0 - (intOf i).toNat)
    case atStart => exact ⟨0, Nat.zero_le _, rfl, rfl⟩
    case round =>
      obtain ⟨k, hk, rfl, rfl⟩ := hrel
      have hz := Bm.ones_zeros (Bm.bytes s) k
      have hb : Bm.zeros (Bm.bytes s) k ≤ 1125899906842624 := by omega
      by_cases hlt : k < 0
      · exact absurd hlt (by omega)
      · obtain rfl : k = 0 := by omega
        clear hz
        go_wp2_with fail
        go_ret
        exact ⟨rfl, rfl⟩
  · subst h3
    go_enter Try.func20, Try.ntmps20
    go_wp2_with fail
    go_loop [5, 6] (fun n i => ∃ k : Nat, k ≤ m ∧ i = .int .i64 k ∧ n = .int .i64 ((Bm.zeros (Bm.bytes s) k : Nat) : Int)) (fun _ i => m - (intOf i).toNat)
    case atStart => exact ⟨0, Nat.zero_le _, rfl, rfl⟩
    case round =>
      obtain ⟨k, hk, rfl, rfl⟩ := hrel
      have hz := Bm.ones_zeros (Bm.bytes s) k
      have hb : Bm.zeros (Bm.bytes s) k ≤ 1125899906842624 := by omega
      by_cases hlt : k < m
      · have hlt' : (k : Int) < (m : Int) := by omega
        have hlt2 : (k : Int) < 8 * (s.size : Int) := by omega
        cases hbit : Bm.bit (Bm.bytes s) k
        · have HO : Hid (Bm.zeros (Bm.bytes s) (k + 1) = Bm.zeros (Bm.bytes s) k + 1) := by
            show _ = _
            simp only [Bm.zeros, hbit]; simp
          have HB := Lib.hid hbit
          generalize Bm.zeros (Bm.bytes s) k = n at hb HO hz
          clear hbit hz
          go_wp2_with fail
          refine (refBit_in s k _ hs (by omega)).mono ?_
          rw [HB.out]
          rintro e w1 ⟨rfl, rfl⟩
          go_wp2_with fail
          go_round
          case rel => exact ⟨k + 1, by omega, by go_num, by rw [HO.out]; go_num⟩
          case measure => simp [intOf]; omega
        · have HO : Hid (Bm.zeros (Bm.bytes s) (k + 1) = Bm.zeros (Bm.bytes s) k) := by
            show _ = _
            simp only [Bm.zeros, hbit]; simp
          have HB := Lib.hid hbit
          generalize Bm.zeros (Bm.bytes s) k = n at hb HO hz
          clear hbit hz
          go_wp2_with fail
          refine (refBit_in s k _ hs (by omega)).mono ?_
          rw [HB.out]
          rintro e w1 ⟨rfl, rfl⟩
          go_wp2_with fail
          go_round
          case rel => exact ⟨k + 1, by omega, by go_num, by rw [HO.out]⟩
          case measure => simp [intOf]; omega
      · obtain rfl : k = m := by omega
        clear hz
        go_wp2_with fail
        go_ret
        exact ⟨rfl, rfl⟩
  · go_enter Try.func20, Try.ntmps20
    go_wp2_with fail
    go_loop [5, 6] (fun n i => ∃ k : Nat, k ≤ 8 * s.size ∧ i = .int .i64 k ∧ n = .int .i64 ((Bm.zeros (Bm.bytes s) k : Nat) : Int)) (fun _ i => 8 * s.size - (intOf i).toNat)
    case atStart => exact ⟨0, Nat.zero_le _, rfl, rfl⟩
    case round =>
      obtain ⟨k, hk, rfl, rfl⟩ := hrel
      have hz := Bm.ones_zeros (Bm.bytes s) k
      have hb : Bm.zeros (Bm.bytes s) k ≤ 1125899906842624 := by omega
      by_cases hlt : k < 8 * s.size
      · have hlt' : (k : Int) < i := by omega
        have hlt2 : (k : Int) < 8 * (s.size : Int) := by omega
        cases hbit : Bm.bit (Bm.bytes s) k
        · have HO : Hid (Bm.zeros (Bm.bytes s) (k + 1) = Bm.zeros (Bm.bytes s) k + 1) := by
            show _ = _
            simp only [Bm.zeros, hbit]; simp
          have HB := Lib.hid hbit
          generalize Bm.zeros (Bm.bytes s) k = n at hb HO hz
          clear hbit hz
          go_wp2_with fail
          refine (refBit_in s k _ hs (by omega)).mono ?_
          rw [HB.out]
          rintro e w1 ⟨rfl, rfl⟩
          go_wp2_with fail
          go_round
          case rel => exact ⟨k + 1, by omega, by go_num, by rw [HO.out]; go_num⟩
          case measure => simp [intOf]; omega
        · have HO : Hid (Bm.zeros (Bm.bytes s) (k + 1) = Bm.zeros (Bm.bytes s) k) := by
            show _ = _
            simp only [Bm.zeros, hbit]; simp
          have HB := Lib.hid hbit
          generalize Bm.zeros (Bm.bytes s) k = n at hb HO hz
          clear hbit hz
          go_wp2_with fail
          refine (refBit_in s k _ hs (by omega)).mono ?_
          rw [HB.out]
          rintro e w1 ⟨rfl, rfl⟩
          go_wp2_with fail
          go_round
          case rel => exact ⟨k + 1, by omega, by go_num, by rw [HO.out]⟩
          case measure => simp [intOf]; omega
      · obtain rfl : k = 8 * s.size := by omega
        clear hz
        go_wp2_with fail
        go_ret
        exact ⟨rfl, rfl⟩
end Go.Proofs.Ytkhnljblfbdkkaa
