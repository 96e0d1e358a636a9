/- The contracts of bit, OnesCount8, Count, Rank and of their references. -/
import Derived.Test.YtkhnljblfbdkkaaAwake
namespace Go.Proofs.Ytkhnljblfbdkkaa
open Go.RowKit

theorem bit_walk (c j : Nat) (hc : c < 256) : (bits .and .u8 ((c : Int) / 2 ^ j) 1 == 1) = c.testBit j := by
  have e : (c : Int) / 2 ^ j = ((c / 2 ^ j : Nat) : Int) := by
    rw [Int.natCast_ediv, Int.natCast_pow]; rfl
  have h : c / 2 ^ j < 256 := Nat.lt_of_le_of_lt (Nat.div_le_self _ _) hc
  have h2 := u8_and_nat (c / 2 ^ j) 1 h (by decide)
  rw [Nat.and_one_is_mod] at h2
  rw [e, Nat.testBit_eq_decide_div_mod_eq, Bool.eq_iff_iff, beq_iff_eq, decide_eq_true_iff]
  have h3 : bits .and .u8 ((c / 2 ^ j : Nat) : Int) 1 = ((c / 2 ^ j % 2 : Nat) : Int) := h2
  rw [h3]
  omega

set_option maxRecDepth 20000 in
set_option maxHeartbeats 400000 in
theorem bit_any (s : ByteArray) (k : Nat) (w : World) (hs : s.size ≤ 140737488351232) (hk : k / 8 < s.size) :
    Calls Try.prog 21 #[.string s, .int .i64 (k : Int)] w fun e w' => e = .returned (.bool (s[k / 8].toNat.testBit (k % 8))) ∧ w = w' := by
  have i0 : (0 : Int) ≤ (k : Int) / 8 := by omega
  have i1 : (k : Int) / 8 < (s.size : Int) := by omega
  have hc : s[k / 8].toNat < 256 := s[k / 8].toNat_lt
  go_enter Try.func21, Try.ntmps21
  go_wp2_with fail
  go_ret
  exact ⟨congrArg (fun z => Ending.returned (Value.bool z)) (bit_walk _ _ hc), rfl⟩

set_option maxRecDepth 20000 in
set_option maxHeartbeats 400000 in
theorem refBit_any (s : ByteArray) (k : Nat) (w : World) (hs : s.size ≤ 140737488351232) (hk : k / 8 < s.size) :
    Calls Try.prog 23 #[.string s, .int .i64 (k : Int)] w fun e w' => e = .returned (.bool (s[k / 8].toNat.testBit (k % 8))) ∧ w = w' := by
  have i0 : (0 : Int) ≤ (k : Int) / 8 := by omega
  have i1 : (k : Int) / 8 < (s.size : Int) := by omega
  have hc : s[k / 8].toNat < 256 := s[k / 8].toNat_lt
  go_enter Try.func23, Try.ntmps23
  go_wp2_with fail
  go_ret
  exact ⟨congrArg (fun z => Ending.returned (Value.bool z)) (bit_walk _ _ hc), rfl⟩

/-- The number of ones among the first k bits of a byte. -/
def pop (c : Nat) : Nat → Nat
  | 0 => 0
  | k + 1 => pop c k + if c.testBit k then 1 else 0

theorem pop_le (c k : Nat) : pop c k ≤ k := by
  induction k with
  | zero => exact Nat.le_refl _
  | succ k ih => simp only [pop]; split <;> omega

/-- A table of 256 bytes that holds the numbers of ones. -/
theorem pop_of (t : ByteArray) (ht : (List.range 256).all (fun c => (t.data.toList.getD c 0).toNat == pop c 8) = true) (c : Nat) (hc : c < 256) (h : c < t.size) : wrap64 ((t[c].toNat : Nat) : Int) = ((pop c 8 : Nat) : Int) := by
  have h1 := List.all_eq_true.1 ht c (List.mem_range.2 hc)
  rw [beq_iff_eq] at h1
  have h' : c < t.data.size := h
  have e : t.data.toList.getD c 0 = t[c] := by
    rw [List.getD_eq_getElem?_getD, Array.getElem?_toList, Array.getElem?_eq_getElem h']; rfl
  rw [e] at h1
  have h2 := pop_le c 8
  rw [h1]
  exact IntWalk.wrap64_in _ (by omega)

set_option maxRecDepth 20000 in
set_option maxHeartbeats 400000 in
theorem ones8_any (c : Nat) (w : World) (hc : c < 256) :
    Calls Try.prog 24 #[.int .u8 (c : Int)] w fun e w' => e = .returned (.int .i64 ((pop c 8 : Nat) : Int)) ∧ w = w' := by
  have i1 : (c : Int) < 256 := by omega
  go_enter Try.func24, Try.ntmps24
  go_wp2_with fail
  go_ret
  exact ⟨congrArg (fun z => Ending.returned (Value.int .i64 z)) (pop_of _ (by decide +kernel) c hc _), rfl⟩
end Go.Proofs.Ytkhnljblfbdkkaa
