/- Pick; the walks of the laws NullsExamples, NullsCounts and NullsTogether. -/
import Derived.Test.YtkhnljblfbdkkaaRank
namespace Go.Proofs.Ytkhnljblfbdkkaa
open Go.RowKit

/-- Pick's number. -/
def pick (v n : Int) : Int := IntKind.u64.wrap v % n
theorem pick_bd (v n : Int) (h : 1 ≤ n) : 0 ≤ pick v n ∧ pick v n < n :=
  ⟨Int.emod_nonneg _ (by omega), Int.emod_lt_of_pos _ (by omega)⟩

theorem pick_walk (v n : Int) (h1 : 1 ≤ n) (h2 : n ≤ 10000000000000000) : wrap64 ((IntKind.u64.wrap v).tmod n) = pick v n := by
  have hb := pick_bd v n h1
  rw [Int.tmod_eq_emod_of_nonneg (wrap_u64_nonneg v)]
  show wrap64 (pick v n) = pick v n
  exact IntWalk.wrap64_in _ (by omega)

set_option maxRecDepth 20000 in
set_option maxHeartbeats 400000 in
theorem pick_any (v n : Int) (w : World) (h1 : 1 ≤ n) (h2 : n ≤ 10000000000000000) :
    Calls Try.prog 13 #[.int .i64 v, .int .i64 n] w fun e w' => e = .returned (.int .i64 (pick v n)) ∧ w = w' := by
  go_enter Try.func13, Try.ntmps13
  go_wp2_with fail
  go_ret
  exact ⟨congrArg (fun z => Ending.returned (Value.int .i64 z)) (pick_walk v n h1 h2), rfl⟩

theorem zeros5 : Bm.zeros (Bm.bytes ⟨#[5]⟩) (Bm.clamp 3 (8 * (⟨#[5]⟩ : ByteArray).size)) = 1 := by decide
theorem ones5 : Bm.ones (Bm.bytes ⟨#[5]⟩) (8 * (⟨#[5]⟩ : ByteArray).size) = 2 := by decide

set_option maxRecDepth 20000 in
set_option maxHeartbeats 400000 in
theorem law_examples (w : World) : Calls Try.prog 6 #[] w fun e w' => e = .returned (.bool true) ∧ Below w.heap.size w w' := by
  go_enter Try.func6, Try.ntmps6
  go_wp2_with fail
  refine (pack_any _ _ _ [true, false, true] _ (boolsIn_three w)).mono ?_
  rw [pack_three]
  rintro e w1 ⟨rfl, hb⟩
  go_wp2_with fail
  refine (rank_any ⟨#[5]⟩ 3 _ (by decide)).mono ?_
  rw [zeros5]
  rintro e w2 ⟨rfl, rfl⟩
  go_wp2_with fail
  refine (count_any ⟨#[5]⟩ _ (by decide)).mono ?_
  rw [ones5]
  rintro e w2 ⟨rfl, rfl⟩
  go_wp2_with fail
  go_ret
  refine ⟨rfl, ((Below.refl _ _).alloc (Nat.le_refl _) _).trans (hb.mono (by simp))⟩

set_option maxRecDepth 20000 in
set_option maxHeartbeats 1000000 in
theorem law_counts (s : ByteArray) (i : Int) (w : World) (hs : s.size ≤ 140737488351232) (_ : (Lit.int .i64 i).wf = true) : Calls Try.prog 7 #[.string s, .int .i64 i] w fun e w' => e = .returned (.bool true) ∧ Below w.heap.size w w' := by
  go_enter Try.func7, Try.ntmps7
  go_wp2_with fail
  refine (pick_any _ _ _ (by omega) (by omega)).mono ?_
  rintro e w1 ⟨rfl, rfl⟩
  have hp := pick_bd i (8 * (s.size : Int) + 12) (by omega)
  generalize pick i (8 * (s.size : Int) + 12) = p at hp
  go_wp2_with fail
  refine (awake_any _).mono ?_
  rintro e w1 ⟨rfl, hb⟩
  go_wp2_with fail
  refine (count_any s _ hs).mono ?_
  rintro e w2 ⟨rfl, rfl⟩
  go_wp2_with fail
  refine (refCount_any s _ hs).mono ?_
  rintro e w2 ⟨rfl, rfl⟩
  go_wp2_with fail
  refine (rank_any s _ _ hs).mono ?_
  rintro e w2 ⟨rfl, rfl⟩
  go_wp2_with fail
  refine (refRank_any s _ _ hs).mono ?_
  rintro e w2 ⟨rfl, rfl⟩
  go_wp2_with fail
  refine (rank_any s _ _ hs).mono ?_
  rintro e w2 ⟨rfl, rfl⟩
  go_wp2_with fail
  refine (refRank_any s _ _ hs).mono ?_
  rintro e w2 ⟨rfl, rfl⟩
  go_wp2_with fail
  go_ret
  exact ⟨rfl, hb⟩

set_option maxRecDepth 20000 in
set_option maxHeartbeats 1000000 in
theorem law_together (s : ByteArray) (i : Int) (w : World) (hs : s.size ≤ 140737488351232) (_ : (Lit.int .i64 i).wf = true) : Calls Try.prog 9 #[.string s, .int .i64 i] w fun e w' => e = .returned (.bool true) ∧ Below w.heap.size w w' := by
  have hp := pick_bd i (8 * (s.size : Int) + 1) (by omega)
  go_enter Try.func9, Try.ntmps9
  go_wp2_with fail
  refine (pick_any _ _ _ (by omega) (by omega)).mono ?_
  rintro e w1 ⟨rfl, rfl⟩
  obtain ⟨k, hk⟩ := Int.eq_ofNat_of_zero_le hp.1
  rw [hk] at hp ⊢
  clear hk
  have hk8 : k ≤ 8 * s.size := by omega
  clear hp
  have hz := Bm.ones_zeros (Bm.bytes s) (8 * s.size)
  have hzk := Bm.ones_zeros (Bm.bytes s) k
  have hm := Bm.zeros_mono (Bm.bytes s) k (8 * s.size) hk8
  have c1 : Bm.clamp (8 * (s.size : Int)) (8 * s.size) = 8 * s.size := Bm.clamp_big (by omega)
  have c2 : Bm.clamp (k : Int) (8 * s.size) = k := Bm.clamp_in hk8
  have C1 := Lib.hid c1
  have C2 := Lib.hid c2
  clear c1 c2
  have h1 : (Bm.zeros (Bm.bytes s) (8 * s.size) : Int) + (Bm.ones (Bm.bytes s) (8 * s.size) : Int) = 8 * (s.size : Int) := by omega
  have h2 : (Bm.zeros (Bm.bytes s) k : Int) ≤ (Bm.zeros (Bm.bytes s) (8 * s.size) : Int) := by omega
  have h3 : (Bm.zeros (Bm.bytes s) k : Int) ≤ (k : Int) := by omega
  have h4 : (Bm.zeros (Bm.bytes s) (8 * s.size) : Int) ≤ 1125899906842624 := by omega
  have h5 : (Bm.ones (Bm.bytes s) (8 * s.size) : Int) ≤ 1125899906842624 := by omega
  have H1 : Hid ((((Bm.zeros (Bm.bytes s) (8 * s.size) : Int) + (Bm.ones (Bm.bytes s) (8 * s.size) : Int)) == 8 * (s.size : Int)) = true) := by
    show _ = _
    rw [beq_iff_eq]; exact h1
  have h6 : Bm.zeros (Bm.bytes s) k ≤ k := by omega
  clear hz hzk h1
  go_wp2_with fail
  refine (rank_any s _ _ hs).mono ?_
  rw [C1.out]
  rintro e w1 ⟨rfl, rfl⟩
  go_wp2_with fail
  refine (awake_any _).mono ?_
  rintro e w1 ⟨rfl, hb⟩
  go_wp2_with fail
  refine (count_any s _ hs).mono ?_
  rintro e w2 ⟨rfl, rfl⟩
  have hH := H1.out
  go_wp2_with fail
  refine (rank_any s _ _ hs).mono ?_
  rw [C2.out]
  rintro e w2 ⟨rfl, rfl⟩
  go_wp2_with fail
  refine (rank_any s _ _ hs).mono ?_
  rw [C2.out]
  rintro e w2 ⟨rfl, rfl⟩
  go_wp2_with fail
  go_ret
  exact ⟨rfl, hb⟩
end Go.Proofs.Ytkhnljblfbdkkaa
