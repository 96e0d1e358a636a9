/- What the bits of a packed list are; the walk of the law NullsRankIsIndex. -/
import Derived.Test.YtkhnljblfbdkkaaLaws
namespace Go.Proofs.Ytkhnljblfbdkkaa
open Go.RowKit
namespace Bm

theorem bit_orAt (bs : List Nat) (k i : Nat) (hk : k / 8 < bs.length) : bit (orAt bs k) i = (bit bs i || decide (i = k)) := by
  unfold bit orAt
  by_cases h : i / 8 = k / 8
  · rw [h, List.getD_eq_getElem?_getD (l := bs.set _ _), List.getElem?_set_self hk, Option.getD_some, Nat.testBit_or, Nat.testBit_two_pow]
    congr 1
    rw [Bool.eq_iff_iff, decide_eq_true_iff, decide_eq_true_iff]
    omega
  · rw [List.getD_eq_getElem?_getD (l := bs.set _ _), List.getElem?_set_ne (by omega), ← List.getD_eq_getElem?_getD]
    rw [decide_eq_false (by omega), Bool.or_false]

theorem bit_packTo (m : Nat) (l : List Bool) (k i : Nat) (hk : k ≤ 8 * m) : bit (packTo m l k) i = (decide (i < k) && l.getD i false) := by
  induction k with
  | zero =>
    rw [decide_eq_false (by omega), Bool.false_and]
    unfold bit packTo
    by_cases h : i / 8 < m
    · rw [List.getD_eq_getElem?_getD, List.getElem?_replicate, if_pos h]; exact Nat.zero_testBit _
    · rw [List.getD_eq_getElem?_getD, List.getElem?_replicate, if_neg h]; exact Nat.zero_testBit _
  | succ k ih =>
    have ih' := ih (by omega)
    unfold packTo
    split
    · rename_i hl
      rw [bit_orAt _ _ _ (by rw [length_packTo]; omega), ih']
      by_cases e : i = k
      · subst e
        rw [decide_eq_true (show i < i + 1 by omega), hl]; simp
      · rw [decide_eq_false e, Bool.or_false, show decide (i < k + 1) = decide (i < k) from by rw [Bool.eq_iff_iff, decide_eq_true_iff, decide_eq_true_iff]; omega]
    · rename_i hl
      rw [ih']
      by_cases e : i = k
      · subst e
        have hf : l.getD i false = false := by simpa using hl
        rw [hf]; simp
      · rw [show decide (i < k + 1) = decide (i < k) from by rw [Bool.eq_iff_iff, decide_eq_true_iff, decide_eq_true_iff]; omega]

theorem bit_pack (l : List Bool) (i : Nat) : bit (pack l) i = (decide (i < l.length) && l.getD i false) :=
  bit_packTo _ l _ i (by omega)

theorem ones_tail (bs : List Nat) (n m : Nat) (h : n ≤ m) (hz : ∀ i, n ≤ i → bit bs i = false) : ones bs m = ones bs n := by
  induction m with
  | zero => have : n = 0 := by omega
            subst this; rfl
  | succ m ih =>
    by_cases e : n = m + 1
    · rw [e]
    · simp only [ones]; rw [ih (by omega), hz m (by omega)]; rfl

theorem lt_pack (l : List Bool) : ∀ x ∈ pack l, x < 256 := lt_packTo _ _ _
theorem length_pack (l : List Bool) : (pack l).length = (l.length + 7) / 8 := length_packTo _ _ _

theorem bytes_strOf (ns : List Nat) (h : ∀ x ∈ ns, x < 256) : bytes (strOf ns) = ns := by
  show (ns.map UInt8.ofNat).map UInt8.toNat = ns
  rw [List.map_map]
  have e : ns.map (UInt8.toNat ∘ UInt8.ofNat) = ns.map id := List.map_congr_left (fun x hx => by simp only [Function.comp, UInt8.toNat_ofNat', id]; exact Nat.mod_eq_of_lt (h x hx))
  rw [e, List.map_id]

theorem bytes_pack (l : List Bool) : bytes (strOf (pack l)) = pack l := bytes_strOf _ (lt_pack l)
theorem size_strOf (ns : List Nat) : (strOf ns).size = ns.length := by
  show (ns.map UInt8.ofNat).toArray.size = _
  simp
theorem size_pack (l : List Bool) : (strOf (pack l)).size = (l.length + 7) / 8 := by rw [size_strOf, length_pack]

theorem zeros_pack (l : List Bool) (k : Nat) (h : k < l.length) : zeros (pack l) (k + 1) = zeros (pack l) k + if l.getD k false then 0 else 1 := by
  simp only [zeros]
  rw [bit_pack, decide_eq_true h, Bool.true_and]

theorem ones_pack (l : List Bool) : ones (pack l) (8 * ((l.length + 7) / 8)) + zeros (pack l) l.length = l.length := by
  rw [ones_tail (pack l) l.length _ (by omega) (fun i hi => by rw [bit_pack, decide_eq_false (by omega)]; rfl)]
  exact ones_zeros _ _

end Bm

set_option maxRecDepth 20000 in
set_option maxHeartbeats 1000000 in
theorem law_index (a : Option Addr) (n cap : Nat) (l : List Bool) (w : World) (hin : BoolsIn w a n l) :
    Calls Try.prog 8 #[.slice a n cap] w fun e w' => e = .returned (.bool true) ∧ Below w.heap.size w w' := by
  have HIN := Lib.hid hin
  have hr := hin.reach
  have HL := Lib.hid hin.len
  clear hin
  go_enter Try.func8, Try.ntmps8
  go_wp2_with fail
  refine (pack_any _ _ _ l _ HIN.out).mono ?_
  rintro e w1 ⟨rfl, hb1⟩
  have HB := Lib.hid (Bm.bytes_pack l)
  have HZ : Hid ((strOf (Bm.pack l)).size = (n + 7) / 8) := by show _ = _; rw [Bm.size_pack, HL.out]
  have HS : Hid ((strOf (Bm.pack l)).size ≤ 140737488351232) := by show _ ≤ _; rw [HZ.out]; omega
  have HP := Lib.hid (Bm.zeros_pack l)
  have HO := Lib.hid (Bm.ones_pack l)
  generalize strOf (Bm.pack l) = s at HB HZ HS ⊢
  generalize Bm.pack l = bs at HB HP HO
  go_wp2_with fail
  go_loop [4, 11] (fun c i => ∃ k : Nat, k ≤ n ∧ i = .int .i64 k ∧ c = .int .i64 ((Bm.zeros bs k : Nat) : Int)) (fun _ i => n - (intOf i).toNat)
  case atStart => exact ⟨0, Nat.zero_le _, rfl, rfl⟩
  case round =>
    obtain ⟨k, hk, rfl, rfl⟩ := hrel
    have hz := Bm.ones_zeros bs k
    have hzb : (Bm.zeros bs k : Int) ≤ 1125899906842624 := by omega
    by_cases hlt : k < n
    · obtain ⟨b, off, rfl, hb, hc⟩ := (HIN.out.later hb1).cells k hlt
      have HC : Hid (Bm.zeros (Bm.bytes s) (Bm.clamp (k : Int) (8 * s.size)) = Bm.zeros bs k) := by
        show _ = _
        rw [HB.out, Bm.clamp_in (by rw [HZ.out]; omega)]
      have i0 : (0 : Int) ≤ (k : Int) := by omega
      have i1 : (k : Int) < (n : Int) := by omega
      have hs := HP.out k (by rw [HL.out]; exact hlt)
      cases hbit : l.getD k false
      · rw [hbit] at hs hc
        have HQ : Hid (Bm.zeros bs (k + 1) = Bm.zeros bs k + 1) := hs
        generalize Bm.zeros bs k = z at hzb HC HQ hz
        clear hs hbit hz
        go_wp2_with fail
        refine (rank_any s _ _ HS.out).mono ?_
        rw [HC.out]
        rintro e w2 ⟨rfl, rfl⟩
        go_wp2_with fail
        go_round
        case rel => exact ⟨k + 1, by omega, by go_num, by rw [HQ.out]; go_num⟩
        case measure => simp [intOf]; omega
      · rw [hbit] at hs hc
        have HQ : Hid (Bm.zeros bs (k + 1) = Bm.zeros bs k) := hs
        generalize Bm.zeros bs k = z at hzb HC HQ hz
        clear hs hbit hz
        go_wp2_with fail
        refine (rank_any s _ _ HS.out).mono ?_
        rw [HC.out]
        rintro e w2 ⟨rfl, rfl⟩
        go_wp2_with fail
        go_round
        case rel => exact ⟨k + 1, by omega, by go_num, by rw [HQ.out]⟩
        case measure => simp [intOf]; omega
    · obtain rfl : k = n := by omega
      have HE : Hid (Bm.ones (Bm.bytes s) (8 * s.size) = k - Bm.zeros bs k) := by
        show _ = _
        have := HO.out
        rw [HB.out, HZ.out, ← HL.out]
        omega
      have hzk : Bm.zeros bs k ≤ k := by omega
      generalize Bm.zeros bs k = z at hzb HE hz hzk
      clear hz
      go_wp2_with fail
      refine (awake_any _).mono ?_
      rintro e w2 ⟨rfl, hb2⟩
      have hbb := hb1.trans (hb2.mono hb1.size)
      clear hb1 hb2
      go_wp2_with fail
      refine (count_any s _ HS.out).mono ?_
      rw [HE.out]
      rintro e w3 ⟨rfl, rfl⟩
      have heq : (((k - z : Nat) : Int) == (k : Int) - (z : Int)) = true := by rw [beq_iff_eq]; omega
      go_wp2_with fail
      go_ret
      exact ⟨rfl, hbb⟩
end Go.Proofs.Ytkhnljblfbdkkaa
