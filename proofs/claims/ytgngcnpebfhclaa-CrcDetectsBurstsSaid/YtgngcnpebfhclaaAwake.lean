/- 'awake' answers true; Crc is Sum with the table; Same of two equal rows; Pick; the laws CrcSums, CrcTable and CrcExamples. -/
import Derived.Test.YtgngcnpebfhclaaTable
import Derived.Deep.QuietTactic
import Derived.BigQuiet
namespace Go.Proofs.Ytgngcnpebfhclaa
open Go.RowKit

/-- What a row of the call's own with at least one number is good for. -/
theorem owned {w : World} {base n : Nat} {v : Value} {l : List Nat} (h : w.ownsRow base 23 1 v n (u32s l)) (hn : 0 < n) (hr : n ≤ 140737488351232) :
    ∃ g cap, v = .slice (some ⟨g, 0, none⟩) n cap ∧ base ≤ g ∧ g < w.heap.size ∧ n ≤ cap ∧ NatsIn .u32 w (some ⟨g, 0, none⟩) n l := by
  have h0 := h
  obtain ⟨hlen, hcase⟩ := h
  have hl : l.length = n := by simpa [u32s] using hlen
  rcases hcase with ⟨_, he⟩ | ⟨g, cap, cur, rfl, hg, hh, hnc, _, _, _⟩
  · rw [he] at hlen; simp at hlen; omega
  · have hgl : g < w.heap.size := by
      rcases Nat.lt_or_ge g w.heap.size with h | h
      · exact h
      · rw [Array.getElem?_eq_none h] at hh; cases hh
    refine ⟨g, cap, rfl, hg, hgl, hnc, hl, hr, fun t ht => ⟨g, 0, rfl, hgl, ?_⟩⟩
    rw [Nat.zero_add, h0.cellAt t (by omega), u32s_get _ _ (by omega)]

theorem fits_table : Cs.fits Cs.table := Cs.fits_tab 256 (Nat.le_refl _)
theorem length_table : Cs.table.length = 256 := Cs.length_tab 256

theorem sum_a : Cs.sum Cs.table (Cs.bytes ⟨#[97]⟩) = 3251651376 := by decide +kernel
theorem sum_digits : Cs.sum Cs.table (Cs.bytes ⟨#[49, 50, 51, 52, 53, 54, 55, 56, 57]⟩) = 3808858755 := by decide +kernel

set_option maxRecDepth 20000 in
set_option maxHeartbeats 400000 in
theorem awake_any (w : World) : Calls Try.prog 9 #[] w fun e w' => e = .returned (.bool true) ∧ Below w.heap.size w w' := by
  go_enter Try.func9, Try.ntmps9
  go_wp2_with fail
  refine (refTable_any _).mono ?_
  rintro e w1 ⟨v, rfl, hown, hb⟩
  obtain ⟨g, cap, rfl, _, _, _, hin⟩ := owned hown (by omega) (by omega)
  clear hown
  have HIN := Lib.hid hin
  clear hin
  go_wp2_with fail
  refine (sum_any _ _ _ _ _ _ HIN.out fits_table (by decide)).mono ?_
  rw [sum_a]
  rintro e w2 ⟨rfl, rfl⟩
  go_wp2_with fail
  go_ret
  exact ⟨rfl, hb⟩

set_option maxRecDepth 20000 in
set_option maxHeartbeats 400000 in
theorem refCrc_any (s : ByteArray) (w : World) (hs : s.size ≤ 140737488351232) :
    Calls Try.prog 12 #[.string s] w fun e w' => e = .returned (.int .u32 ((Cs.sum Cs.table (Cs.bytes s) : Nat) : Int)) ∧ Below w.heap.size w w' := by
  go_enter Try.func12, Try.ntmps12
  go_wp2_with fail
  refine (refTable_any _).mono ?_
  rintro e w1 ⟨v, rfl, hown, hb⟩
  obtain ⟨g, cap, rfl, _, _, _, hin⟩ := owned hown (by omega) (by omega)
  clear hown
  have HIN := Lib.hid hin
  clear hin
  go_wp2_with fail
  refine (refSum_any _ _ _ _ _ _ HIN.out fits_table hs).mono ?_
  rintro e w2 ⟨rfl, rfl⟩
  go_wp2_with fail
  go_ret
  exact ⟨rfl, hb⟩

set_option maxRecDepth 20000 in
set_option maxHeartbeats 400000 in
theorem law_sums (s : ByteArray) (w : World) (hs : s.size ≤ 140737488351232) :
    Calls Try.prog 3 #[.string s] w fun e w' => e = .returned (.bool true) ∧ Below w.heap.size w w' := by
  go_enter Try.func3, Try.ntmps3
  go_wp2_with fail
  refine (awake_any _).mono ?_
  rintro e w1 ⟨rfl, hb1⟩
  go_wp2_with fail
  refine (refTable_any _).mono ?_
  rintro e w2 ⟨v, rfl, hown, hb2⟩
  obtain ⟨g, cap, rfl, _, _, _, hin⟩ := owned hown (by omega) (by omega)
  clear hown
  have HIN := Lib.hid hin
  clear hin
  go_wp2_with fail
  refine (sum_any _ _ _ _ _ _ HIN.out fits_table hs).mono ?_
  rintro e w3 ⟨rfl, rfl⟩
  go_wp2_with fail
  refine (refCrc_any s _ hs).mono ?_
  rintro e w3 ⟨rfl, hb3⟩
  have hb12 := hb1.trans (hb2.mono hb1.size)
  have hb := hb12.trans (hb3.mono hb12.size)
  clear hb1 hb2 hb3 hb12
  go_wp2_with fail
  go_ret
  exact ⟨rfl, hb⟩

set_option maxRecDepth 20000 in
set_option maxHeartbeats 400000 in
theorem law_examples (w : World) :
    Calls Try.prog 6 #[] w fun e w' => e = .returned (.bool true) ∧ Below w.heap.size w w' := by
  go_enter Try.func6, Try.ntmps6
  go_wp2_with fail
  refine (table_any _).mono ?_
  rintro e w1 ⟨v, rfl, hown, hb⟩
  obtain ⟨g, cap, rfl, _, _, _, hin⟩ := owned hown (by omega) (by omega)
  clear hown
  have HIN := Lib.hid hin
  clear hin
  go_wp2_with fail
  refine (sum_any _ _ _ _ _ _ HIN.out fits_table (by decide)).mono ?_
  rw [sum_digits]
  rintro e w2 ⟨rfl, rfl⟩
  go_wp2_with fail
  go_ret
  exact ⟨rfl, hb⟩

end Go.Proofs.Ytgngcnpebfhclaa
