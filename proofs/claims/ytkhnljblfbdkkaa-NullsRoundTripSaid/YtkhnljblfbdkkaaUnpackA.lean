/- The contract of Unpack. -/
import Derived.Test.YtkhnljblfbdkkaaUnpack
namespace Go.Proofs.Ytkhnljblfbdkkaa
open Go.RowKit

/-- The row after k of its n bools have been stored. -/
def part (bs : List Nat) (n k : Nat) : List Bool := (List.range k).map (Bm.bit bs) ++ List.replicate (n - k) false

theorem part_set (bs : List Nat) (n k : Nat) (h : k < n) : (bools (part bs n k)).set k (.bool (Bm.bit bs k)) = bools (part bs n (k + 1)) := by
  unfold bools part
  rw [← List.map_set]
  congr 1
  rw [List.set_append_right _ _ (by simp), show n - k = (n - (k + 1)) + 1 from by omega, List.replicate_succ, List.range_succ, List.map_append]
  simp

theorem part_zero (bs : List Nat) (n : Nat) : bools (part bs n 0) = (madeCells #[Value.bool false] n).toList := by
  rw [toList_madeCells_one]; simp [bools, part]

theorem part_all (bs : List Nat) (n : Nat) : part bs n n = (List.range n).map (Bm.bit bs) := by simp [part]

theorem length_part (bs : List Nat) (n k : Nat) (h : k ≤ n) : (bools (part bs n k)).length = n := by simp [bools, part]; omega

set_option maxRecDepth 20000 in
set_option maxHeartbeats 1000000 in
theorem unpack_no (s : ByteArray) (n : Int) (w : World) (_ : s.size ≤ 140737488351232) (h : Bm.err s n ≠ 0) :
    Calls Try.prog 14 #[.string s, .int .i64 n] w fun e w' => Unpacked s n w e w' := by
  have HU : ∀ c : Int, Bm.err s n = c → c ≠ 0 → Unpacked s n w (.returned (.tuple #[.slice none 0 0, .int .i64 c])) w := fun c => unpacked_err
  by_cases h1 : n < 0
  · have H := Lib.hid (HU 4 (by unfold Bm.err; rw [if_pos (Or.inl h1)]) (by omega))
    clear h HU
    go_enter Try.func14, Try.ntmps14
    go_wp2_with fail
    go_ret2
    exact H.out
  by_cases h2 : 4096 < n
  · have H := Lib.hid (HU 4 (by unfold Bm.err; rw [if_pos (Or.inr h2)]) (by omega))
    clear h HU
    go_enter Try.func14, Try.ntmps14
    go_wp2_with fail
    go_ret2
    exact H.out
  obtain ⟨N, rfl⟩ := Int.eq_ofNat_of_zero_le (show 0 ≤ n by omega)
  have hN : N ≤ 4096 := by omega
  have e1 : ¬ ((N : Int) < 0 ∨ 4096 < (N : Int)) := by omega
  by_cases h3 : s.size < (N + 7) / 8
  · have H := Lib.hid (HU 10 (by unfold Bm.err; rw [if_neg e1, Int.toNat_natCast, if_pos h3]) (by omega))
    have h3' : (s.size : Int) < ((N : Int) + 7) / 8 := by omega
    clear h HU h3
    go_enter Try.func14, Try.ntmps14
    go_wp2_with fail
    go_ret2
    exact H.out
  by_cases h4 : (N + 7) / 8 < s.size
  · have H := Lib.hid (HU 2 (by unfold Bm.err; rw [if_neg e1, Int.toNat_natCast, if_neg h3, if_pos h4]) (by omega))
    have h3' : ¬ (s.size : Int) < ((N : Int) + 7) / 8 := by omega
    have h4' : ((N : Int) + 7) / 8 < (s.size : Int) := by omega
    clear h HU h3 h4
    go_enter Try.func14, Try.ntmps14
    go_wp2_with fail
    go_ret2
    exact H.out
  have hsz : s.size = (N + 7) / 8 := by omega
  have hr : Bm.rest (Bm.bytes s) N s.size ≠ true := by
    intro hr
    apply h
    unfold Bm.err
    rw [if_neg e1, Int.toNat_natCast, if_neg h3, if_neg h4, if_pos hr]
  have h8 : N % 8 ≠ 0 := fun h8 => hr (Bm.rest_even s N hsz h8)
  have hk : N / 8 < s.size := by omega
  have hq : ¬ s[N / 8].toNat / 2 ^ (N % 8) = 0 := fun hq => hr ((Bm.rest_shr s N hsz h8 hk).2 hq)
  have H := Lib.hid (HU 2 (by unfold Bm.err; rw [if_neg e1, Int.toNat_natCast, if_neg h3, if_neg h4, if_neg hr]) (by omega))
  have h3' : ¬ (s.size : Int) < ((N : Int) + 7) / 8 := by omega
  have h4' : ¬ ((N : Int) + 7) / 8 < (s.size : Int) := by omega
  have b8 : ((N : Int) % 8 != 0) = true := by rw [bne_iff_ne]; omega
  have i0 : (0 : Int) ≤ (N : Int) / 8 := by omega
  have i1 : (N : Int) / 8 < (s.size : Int) := by omega
  have bq : ((s[N / 8].toNat : Int) / 2 ^ (N % 8) != 0) = true := by
    have e : (s[N / 8].toNat : Int) / 2 ^ (N % 8) = ((s[N / 8].toNat / 2 ^ (N % 8) : Nat) : Int) := by rw [Int.natCast_ediv, Int.natCast_pow]; rfl
    rw [e, bne_iff_ne]; omega
  clear h HU h3 h4 hsz hr h8 hq e1
  go_enter Try.func14, Try.ntmps14
  go_wp2_with fail
  go_ret2
  exact H.out

theorem err_ok {s : ByteArray} {n : Int} (h : Bm.err s n = 0) : ∃ N : Nat, n = (N : Int) ∧ N ≤ 4096 ∧ s.size = (N + 7) / 8 ∧ Bm.rest (Bm.bytes s) N s.size = true := by
  unfold Bm.err at h
  by_cases h1 : n < 0 ∨ 4096 < n
  · rw [if_pos h1] at h; omega
  rw [if_neg h1] at h
  obtain ⟨N, rfl⟩ := Int.eq_ofNat_of_zero_le (show 0 ≤ n by omega)
  rw [Int.toNat_natCast] at h
  by_cases h2 : s.size < (N + 7) / 8
  · rw [if_pos h2] at h; omega
  rw [if_neg h2] at h
  by_cases h3 : (N + 7) / 8 < s.size
  · rw [if_pos h3] at h; omega
  rw [if_neg h3] at h
  by_cases h4 : Bm.rest (Bm.bytes s) N s.size = true
  · exact ⟨N, rfl, by omega, by omega, h4⟩
  · rw [if_neg h4] at h; omega

set_option maxRecDepth 20000 in
set_option maxHeartbeats 1000000 in
theorem unpack_yes (s : ByteArray) (n : Int) (w : World) (hs : s.size ≤ 140737488351232) (h : Bm.err s n = 0) :
    Calls Try.prog 14 #[.string s, .int .i64 n] w fun e w' => Unpacked s n w e w' := by
  have HE := Lib.hid h
  obtain ⟨N, rfl, hN, hsz, hr⟩ := err_ok h
  have hel := Bm.elems_ok h
  rw [Int.toNat_natCast, ← part_all] at hel
  have HL := Lib.hid hel
  have HR := Lib.hid hr
  have HZ := Lib.hid hsz
  have h3' : ¬ (s.size : Int) < ((N : Int) + 7) / 8 := by omega
  have h4' : ¬ ((N : Int) + 7) / 8 < (s.size : Int) := by omega
  obtain ⟨i0, hi, hz0, hz1, hz2⟩ := info_parts info4
  clear h hel
  have hcase : N % 8 = 0 ∨ N % 8 ≠ 0 := by omega
  rcases hcase with h8 | h8
  · have b8 : ((N : Int) % 8 != 0) = false := by rw [bne_eq_false_iff_eq]; omega
    clear hr hsz h8
    go_enter Try.func14, Try.ntmps14
    go_wp2_with (at_make; refine wpList_make_full _ rfl _ _ 22 rfl w.heap.size 4 i0 (.bool false) 1 Try.underlying22 hi hz0 hz1 _ _ _ _ N rfl rfl (by omega) (by omega) ?b2 ?b3 (Nat.le_refl _) ?_)
    case b2 => omega
    case b3 => unfold maxLen; omega
    intro w0 hown0 hgrow0
    have hown1 : w0.ownsRow w.heap.size 4 1 (.slice (some ⟨w.heap.size, 0, none⟩) N N) N (bools (part (Bm.bytes s) N 0)) := by
      rw [part_zero]
      simpa using hown0
    have hbel0 : Below w.heap.size w w0 := (Below.refl _ _).grown hgrow0 (Nat.le_refl _) (fun k h => by cases h)
    clear hown0 hgrow0
    go_wp2_with fail
    go_loopw [48] (fun i wr => ∃ k : Nat, k ≤ N ∧ i = .int .i64 k ∧ wr.ownsRow w.heap.size 4 1 (.slice (some ⟨w.heap.size, 0, none⟩) N N) N (bools (part (Bm.bytes s) N k)) ∧ Below w.heap.size w wr) (fun i _ => N - (intOf i).toNat)
    case atStart => exact ⟨0, Nat.zero_le _, rfl, hown1, hbel0⟩
    case round =>
      obtain ⟨k, hk', rfl, hown, hbel⟩ := hrel
      by_cases hlt : k < N
      · have hlen := length_part (Bm.bytes s) N k hk'
        have hfz := hown.frozenAt k
        have hx := hown.cellAt k (by omega)
        rw [List.getElem?_eq_getElem (by omega)] at hx
        have hst := hown.stored k (.bool (Bm.bit (Bm.bytes s) k))
        rw [part_set _ _ _ hlt] at hst
        have HST := Lib.hid hst
        have h8k : Hid (k < 8 * s.size) := by show k < 8 * s.size; have := HZ.out; omega
        generalize (bools (part (Bm.bytes s) N k))[k]'(by omega) = u at hx
        clear hst hown hlen hown1
        have q0 : (0 : Int) ≤ (k : Int) := by omega
        have q1 : (k : Int) < (N : Int) := by omega
        go_wp2_with fail
        refine (bit_in s k _ hs h8k.out).mono ?_
        rintro e w1 ⟨rfl, rfl⟩
        generalize Bm.bit (Bm.bytes s) k = bt at HST
        go_wp2_with fail
        go_roundw
        case rel => exact ⟨k + 1, by omega, by go_num, HST.out.1, hbel.setCell (Nat.le_refl _) _⟩
        case measure => simp [intOf]; omega
      · obtain rfl : k = N := by omega
        have HF : Hid (Unpacked s (k : Int) w (.returned (.tuple #[.slice (some ⟨w.heap.size, 0, none⟩) k k, .int .i64 0])) wr) := by
          obtain ⟨a, cap, hv, hb⟩ := bools_owned hown hN
          simp only [Value.slice.injEq, true_and] at hv
          obtain ⟨rfl, rfl⟩ := hv
          exact ⟨_, _, _, by rw [HE.out], by rw [HL.out]; exact hb, hbel⟩
        clear hown hown1
        go_wp2_with fail
        go_ret2
        exact HF.out
  · have hk : N / 8 < s.size := by omega
    have hq := (Bm.rest_shr s N hsz h8 hk).1 hr
    have b8 : ((N : Int) % 8 != 0) = true := by rw [bne_iff_ne]; omega
    have j0 : (0 : Int) ≤ (N : Int) / 8 := by omega
    have j1 : (N : Int) / 8 < (s.size : Int) := by omega
    have bq : ((s[N / 8].toNat : Int) / 2 ^ (N % 8) != 0) = false := by
      have e : (s[N / 8].toNat : Int) / 2 ^ (N % 8) = ((s[N / 8].toNat / 2 ^ (N % 8) : Nat) : Int) := by rw [Int.natCast_ediv, Int.natCast_pow]; rfl
      rw [e, bne_eq_false_iff_eq]; omega
    clear hr hsz h8 hq
    go_enter Try.func14, Try.ntmps14
    go_wp2_with (at_make; refine wpList_make_full _ rfl _ _ 22 rfl w.heap.size 4 i0 (.bool false) 1 Try.underlying22 hi hz0 hz1 _ _ _ _ N rfl rfl (by omega) (by omega) ?b2' ?b3' (Nat.le_refl _) ?_)
    case b2' => omega
    case b3' => unfold maxLen; omega
    intro w0 hown0 hgrow0
    have hown1 : w0.ownsRow w.heap.size 4 1 (.slice (some ⟨w.heap.size, 0, none⟩) N N) N (bools (part (Bm.bytes s) N 0)) := by
      rw [part_zero]
      simpa using hown0
    have hbel0 : Below w.heap.size w w0 := (Below.refl _ _).grown hgrow0 (Nat.le_refl _) (fun k h => by cases h)
    clear hown0 hgrow0
    go_wp2_with fail
    go_loopw [48] (fun i wr => ∃ k : Nat, k ≤ N ∧ i = .int .i64 k ∧ wr.ownsRow w.heap.size 4 1 (.slice (some ⟨w.heap.size, 0, none⟩) N N) N (bools (part (Bm.bytes s) N k)) ∧ Below w.heap.size w wr) (fun i _ => N - (intOf i).toNat)
    case atStart => exact ⟨0, Nat.zero_le _, rfl, hown1, hbel0⟩
    case round =>
      obtain ⟨k, hk', rfl, hown, hbel⟩ := hrel
      by_cases hlt : k < N
      · have hlen := length_part (Bm.bytes s) N k hk'
        have hfz := hown.frozenAt k
        have hx := hown.cellAt k (by omega)
        rw [List.getElem?_eq_getElem (by omega)] at hx
        have hst := hown.stored k (.bool (Bm.bit (Bm.bytes s) k))
        rw [part_set _ _ _ hlt] at hst
        have HST := Lib.hid hst
        have h8k : Hid (k < 8 * s.size) := by show k < 8 * s.size; have := HZ.out; omega
        generalize (bools (part (Bm.bytes s) N k))[k]'(by omega) = u at hx
        clear hst hown hlen hown1
        have q0 : (0 : Int) ≤ (k : Int) := by omega
        have q1 : (k : Int) < (N : Int) := by omega
        go_wp2_with fail
        refine (bit_in s k _ hs h8k.out).mono ?_
        rintro e w1 ⟨rfl, rfl⟩
        generalize Bm.bit (Bm.bytes s) k = bt at HST
        go_wp2_with fail
        go_roundw
        case rel => exact ⟨k + 1, by omega, by go_num, HST.out.1, hbel.setCell (Nat.le_refl _) _⟩
        case measure => simp [intOf]; omega
      · obtain rfl : k = N := by omega
        have HF : Hid (Unpacked s (k : Int) w (.returned (.tuple #[.slice (some ⟨w.heap.size, 0, none⟩) k k, .int .i64 0])) wr) := by
          obtain ⟨a, cap, hv, hb⟩ := bools_owned hown hN
          simp only [Value.slice.injEq, true_and] at hv
          obtain ⟨rfl, rfl⟩ := hv
          exact ⟨_, _, _, by rw [HE.out], by rw [HL.out]; exact hb, hbel⟩
        clear hown hown1
        go_wp2_with fail
        go_ret2
        exact HF.out
end Go.Proofs.Ytkhnljblfbdkkaa
