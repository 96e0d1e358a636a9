/- The contracts of Unpack and of its reference; Same of two equal rows of bools. -/
import Derived.Test.YtkhnljblfbdkkaaIndex
import Derived.Deep.QuietTactic
import Derived.BigQuiet
namespace Go.Proofs.Ytkhnljblfbdkkaa
open Go.RowKit
namespace Bm

/-- Are the bits from n on, among those of m bytes, all 0? -/
def rest (bs : List Nat) (n m : Nat) : Bool := (List.range (8 * m)).all fun i => decide (i < n) || !bit bs i

theorem rest_iff (bs : List Nat) (n m : Nat) : rest bs n m = true ↔ ∀ i, n ≤ i → i < 8 * m → bit bs i = false := by
  unfold rest
  rw [List.all_eq_true]
  constructor
  · intro h i h1 h2
    have := h i (List.mem_range.2 h2)
    rw [decide_eq_false (by omega), Bool.false_or] at this
    simpa using this
  · intro h i hi
    by_cases hn : i < n
    · rw [decide_eq_true hn]; rfl
    · rw [h i (by omega) (List.mem_range.1 hi)]; simp

/-- What Unpack answers: the error. -/
def err (s : ByteArray) (n : Int) : Int :=
  if n < 0 ∨ 4096 < n then 4 else if s.size < (n.toNat + 7) / 8 then 10 else if (n.toNat + 7) / 8 < s.size then 2 else if rest (bytes s) n.toNat s.size = true then 0 else 2

/-- What Unpack answers: the elements. -/
def elems (s : ByteArray) (n : Int) : List Bool := if err s n = 0 then (List.range n.toNat).map (bit (bytes s)) else []

theorem elems_err {s : ByteArray} {n c : Int} (h : err s n = c) (hc : c ≠ 0) : elems s n = [] := by unfold elems; rw [if_neg (by omega)]
theorem elems_ok {s : ByteArray} {n : Int} (h : err s n = 0) : elems s n = (List.range n.toNat).map (bit (bytes s)) := by unfold elems; rw [if_pos h]

theorem shr_zero (c j : Nat) (hc : c < 256) : (c / 2 ^ j = 0) ↔ ∀ t, j ≤ t → t < 8 → c.testBit t = false := by
  constructor
  · intro h t h1 _
    have hlt : c < 2 ^ j := by
      rcases Nat.lt_or_ge c (2 ^ j) with h2 | h2
      · exact h2
      · have := Nat.div_pos h2 (Nat.two_pow_pos j); omega
    exact Nat.testBit_lt_two_pow (Nat.lt_of_lt_of_le hlt (Nat.pow_le_pow_right (by decide) h1))
  · intro h
    refine Nat.div_eq_of_lt (Nat.lt_pow_two_of_testBit c fun t ht => ?_)
    by_cases h8 : t < 8
    · exact h t ht h8
    · exact Nat.testBit_lt_two_pow (Nat.lt_of_lt_of_le hc (by rw [show (256 : Nat) = 2 ^ 8 from rfl]; exact Nat.pow_le_pow_right (by decide) (by omega)))

theorem rest_shr (s : ByteArray) (n : Nat) (hs : s.size = (n + 7) / 8) (_ : n % 8 ≠ 0) (hk : n / 8 < s.size) : rest (bytes s) n s.size = true ↔ s[n / 8].toNat / 2 ^ (n % 8) = 0 := by
  rw [rest_iff, shr_zero _ _ s[n / 8].toNat_lt]
  constructor
  · intro h t h1 h2
    have := h (8 * (n / 8) + t) (by omega) (by omega)
    rw [bit_at s _ (by omega)] at this
    have e : (8 * (n / 8) + t) / 8 = n / 8 := by omega
    have e2 : (8 * (n / 8) + t) % 8 = t := by omega
    simpa [e, e2] using this
  · intro h i h1 h2
    have e : i / 8 = n / 8 := by omega
    have := h (i % 8) (by omega) (by omega)
    unfold bit
    rw [e, bytes_get s _ hk]
    exact this

theorem rest_even (s : ByteArray) (n : Nat) (hs : s.size = (n + 7) / 8) (h8 : n % 8 = 0) : rest (bytes s) n s.size = true := by
  rw [rest_iff]; intro i h1 h2; omega

end Bm

theorem info4 : (Try.prog.info? 4).map (fun i => (i.zero, i.size, i.bytes)) = some (some (.bool false), 1, 1) := by kernel_rfl

/-- The cells of a row of bools. -/
def bools (l : List Bool) : List Value := l.map Value.bool

/-- What both answer. -/
def Unpacked (s : ByteArray) (n : Int) (w : World) (e : Ending) (w' : World) : Prop :=
  ∃ (a : Option Addr) (k cap : Nat), e = .returned (.tuple #[.slice a k cap, .int .i64 (Bm.err s n)]) ∧ BoolsIn w' a k (Bm.elems s n) ∧ Below w.heap.size w w'

theorem unpacked_err {s : ByteArray} {n c : Int} {w : World} (h : Bm.err s n = c) (hc : c ≠ 0) : Unpacked s n w (.returned (.tuple #[.slice none 0 0, .int .i64 c])) w := by
  refine ⟨none, 0, 0, by rw [h], ?_, Below.refl _ _⟩
  rw [Bm.elems_err h hc]
  exact ⟨rfl, by omega, fun t ht => absurd ht (by omega)⟩

theorem bools_owned {w : World} {base n : Nat} {v : Value} {l : List Bool} (h : w.ownsRow base 4 1 v n (bools l)) (hn : n ≤ 4096) : ∃ a cap, v = .slice a n cap ∧ BoolsIn w a n l := by
  have h0 := h
  obtain ⟨hlen, hcase⟩ := h
  have hl : l.length = n := by simpa [bools] using hlen
  rcases hcase with ⟨hv, he⟩ | ⟨g, cap, cur, rfl, hg, hh, hnc, _, _, _⟩
  · have : n = 0 := by rw [he] at hlen; simp at hlen; omega
    subst this
    exact ⟨none, 0, hv, hl, by omega, fun t ht => absurd ht (by omega)⟩
  · have hgl : g < w.heap.size := by
      rcases Nat.lt_or_ge g w.heap.size with h | h
      · exact h
      · rw [Array.getElem?_eq_none h] at hh; cases hh
    refine ⟨_, cap, rfl, hl, by omega, fun t ht => ⟨g, 0, rfl, hgl, ?_⟩⟩
    rw [Nat.zero_add, h0.cellAt t (by omega)]
    simp [bools, List.getD_eq_getElem?_getD, List.getElem?_eq_getElem (show t < l.length by omega)]

set_option maxRecDepth 20000 in
set_option maxHeartbeats 400000 in
theorem same_any (a b : Option Addr) (n ca cb : Nat) (l : List Bool) (w : World) (ha : BoolsIn w a n l) (hb : BoolsIn w b n l) :
    Calls Try.prog 16 #[.slice a n ca, .slice b n cb] w fun e w' => e = .returned (.bool true) ∧ Below w.heap.size w w' := by
  have HA := Lib.hid ha
  have HB := Lib.hid hb
  have hr := ha.reach
  clear ha hb
  go_enter Try.func16, Try.ntmps16
  go_wp2_with fail
  go_loopw [13] (fun i wr => ∃ k : Nat, k ≤ n ∧ i = .int .i64 k ∧ Below w.heap.size w wr) (fun i _ => n - (intOf i).toNat)
  case atStart => exact ⟨0, Nat.zero_le _, rfl, Below.refl _ _⟩
  case round =>
    obtain ⟨k, hk, rfl, hbel⟩ := hrel
    by_cases hlt : k < n
    · obtain ⟨b1, o1, rfl, hl1, hc1⟩ := (HA.out.later hbel).cells k hlt
      obtain ⟨b2, o2, rfl, hl2, hc2⟩ := (HB.out.later hbel).cells k hlt
      have h1 : (0 : Int) ≤ (k : Int) := by omega
      have h2 : (k : Int) < (n : Int) := by omega
      cases hx : l.getD k false
      all_goals
        rw [hx] at hc1 hc2
        clear hx
        go_wp2_with fail
        go_quiet (fail)
        go_wp2_with fail
        go_roundw
        case rel => exact ⟨k + 1, by omega, by go_num, below_drewN hbel _⟩
        case measure => simp [intOf]; omega
    · go_wp2_with fail
      go_ret
      exact ⟨rfl, hbel⟩
end Go.Proofs.Ytkhnljblfbdkkaa
