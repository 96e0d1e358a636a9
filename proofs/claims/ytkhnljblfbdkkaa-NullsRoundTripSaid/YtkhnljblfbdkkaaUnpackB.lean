/- The contract of the reference of Unpack. -/
import Derived.Test.YtkhnljblfbdkkaaUnpackA
namespace Go.Proofs.Ytkhnljblfbdkkaa
open Go.RowKit

set_option maxRecDepth 20000 in
set_option maxHeartbeats 400000 in
theorem size_yes (n : Int) (w : World) (h1 : 0 ≤ n) (h2 : n ≤ 4096) : Calls Try.prog 22 #[.int .i64 n] w fun e w' => e = .returned (.bool true) ∧ w = w' := by
  go_enter Try.func22, Try.ntmps22
  go_wp2_with fail
  go_ret
  exact ⟨rfl, rfl⟩

set_option maxRecDepth 20000 in
set_option maxHeartbeats 400000 in
theorem size_no (n : Int) (w : World) (h : n < 0 ∨ 4096 < n) : Calls Try.prog 22 #[.int .i64 n] w fun e w' => e = .returned (.bool false) ∧ w = w' := by
  rcases h with h | h
  · go_enter Try.func22, Try.ntmps22
    go_wp2_with fail
    go_ret
    exact ⟨rfl, rfl⟩
  · have hd : decide (n ≤ 4096) = false := decide_eq_false (by omega)
    have hp : decide (0 ≤ n) = true := decide_eq_true (by omega)
    go_enter Try.func22, Try.ntmps22
    go_wp2_with fail
    go_ret
    exact ⟨rfl, rfl⟩

/-- The elements that the reference has after k bits. -/
def pre (bs : List Nat) (n k : Nat) : List Bool := (List.range (min k n)).map (Bm.bit bs)

theorem length_pre (bs : List Nat) (n k : Nat) : (pre bs n k).length = min k n := by simp [pre]
theorem pre_more (bs : List Nat) (n k : Nat) (h : k < n) : pre bs n (k + 1) = pre bs n k ++ [Bm.bit bs k] := by
  unfold pre
  rw [show min (k + 1) n = k + 1 from by omega, show min k n = k from by omega, List.range_succ, List.map_append]; rfl
theorem pre_same (bs : List Nat) (n k : Nat) (h : n ≤ k) : pre bs n (k + 1) = pre bs n k := by
  unfold pre
  rw [show min (k + 1) n = n from by omega, show min k n = n from by omega]

set_option maxRecDepth 20000 in
set_option maxHeartbeats 2000000 in
theorem refUnpack_in (s : ByteArray) (N : Nat) (w : World) (hs : s.size ≤ 140737488351232) (hN : N ≤ 4096) (hsz : s.size = (N + 7) / 8) :
    Calls Try.prog 15 #[.string s, .int .i64 (N : Int)] w fun e w' => Unpacked s (N : Int) w e w' := by
  have e1 : ¬ ((N : Int) < 0 ∨ 4096 < (N : Int)) := by omega
  have HE : Hid (Bm.err s (N : Int) = if Bm.rest (Bm.bytes s) N s.size = true then 0 else 2) := by
    show Bm.err _ _ = _
    unfold Bm.err
    rw [if_neg e1, Int.toNat_natCast, if_neg (by omega), if_neg (by omega)]
  have HZ := Lib.hid hsz
  have h3' : ¬ (s.size : Int) < ((N : Int) + 7) / 8 := by omega
  have h4' : ¬ ((N : Int) + 7) / 8 < (s.size : Int) := by omega
  have hs512 : (s.size : Int) ≤ 513 := by omega
  obtain ⟨i0, hi, hz0, hz1, hz2⟩ := info_parts info4
  clear e1 hsz
  go_enter Try.func15, Try.ntmps15
  go_wp2_with fail
  refine (size_yes _ _ (by omega) (by omega)).mono ?_
  rintro e w1 ⟨rfl, rfl⟩
  go_wp2_with fail
  go_loopw [6, 7] (fun v i wr => ∃ k : Nat, k ≤ 8 * s.size ∧ i = .int .i64 k ∧ wr.ownsRow w.heap.size 4 1 v (min k N) (bools (pre (Bm.bytes s) N k)) ∧ (∀ j, N ≤ j → j < k → Bm.bit (Bm.bytes s) j = false) ∧ Below w.heap.size w wr) (fun _ i _ => 8 * s.size - (intOf i).toNat)
  case atStart => exact ⟨0, Nat.zero_le _, rfl, by rw [Nat.zero_min]; exact World.ownsRow_nil _ _ _ _, fun j _ h => absurd h (by omega), Below.refl _ _⟩
  case round =>
    obtain ⟨k, hk, rfl, hown, hrest, hbel⟩ := hrel
    by_cases hlt : k < 8 * s.size
    · have hlt' : (k : Int) < 8 * (s.size : Int) := by omega
      have HREST := Lib.hid hrest
      clear hrest
      by_cases hkN : k < N
      · have hkN' : (k : Int) < (N : Int) := by omega
        rw [show min k N = k from by omega] at hown
        have HM := Lib.hid (pre_more (Bm.bytes s) N k hkN)
        go_wp2_with fail
        refine (refBit_in s k _ hs hlt).mono ?_
        rintro e w1 ⟨rfl, rfl⟩
        generalize Bm.bit (Bm.bytes s) k = bt at HM
        go_wp2_with (at_builtin; refine wpList_append_own _ rfl _ _ 22 rfl w.heap.size 4 i0 (.bool false) 1 1 Try.underlying22 hi hz0 hz1 hz2 rfl (by decide) _ _ _ rfl (hown.alloc _) ⟨wr.heap.size, 0, none⟩ 1 1 [.bool bt] rfl rfl ?c1 ?c2 ?c3 ?c4 ?c5 ?_)
        case c1 =>
          intro j u hj
          match j, hj with
          | 0, hj => simp at hj; subst hj; simp [Addr.add]
        case c2 => intro u hu; simp at hu; subst hu; rfl
        case c3 => unfold maxLen; omega
        case c4 => omega
        case c5 => have := hbel.size; simp; omega
        intro v' w1 hown' hgrow _
        have hown2 : w1.ownsRow w.heap.size 4 1 v' (min (k + 1) N) (bools (pre (Bm.bytes s) N (k + 1))) := by
          rw [HM.out, show min (k + 1) N = k + 1 from by omega]
          simpa [bools] using hown'
        have hbel2 : Below w.heap.size w w1 := (hbel.alloc hbel.size _).grown hgrow (by have := hbel.size; simp; omega) (fun k hk => (hown.lt k hk).1)
        clear hown' hgrow hown hbel
        go_wp2_with fail
        go_roundw
        case rel => exact ⟨k + 1, by omega, by go_num, hown2, fun j h1 h2 => absurd h1 (by omega), hbel2⟩
        case measure => simp [intOf]; omega
      · have hkN' : ¬ (k : Int) < (N : Int) := by omega
        have HM := Lib.hid (pre_same (Bm.bytes s) N k (by omega))
        have hmin : min (k + 1) N = min k N := by omega
        have HMIN := Lib.hid hmin
        clear hmin
        cases hbit : Bm.bit (Bm.bytes s) k
        · have HR2 : Hid (∀ j, N ≤ j → j < k + 1 → Bm.bit (Bm.bytes s) j = false) := by
            intro j h1 h2
            by_cases e : j = k
            · rw [e]; exact hbit
            · exact HREST.out j h1 (by omega)
          have HB := Lib.hid hbit
          clear hbit
          go_wp2_with fail
          refine (refBit_in s k _ hs hlt).mono ?_
          rw [HB.out]
          rintro e w1 ⟨rfl, rfl⟩
          go_wp2_with fail
          go_roundw
          case rel => exact ⟨k + 1, by omega, by go_num, by rw [HM.out, HMIN.out]; exact hown, HR2.out, hbel⟩
          case measure => simp [intOf]; omega
        · have hbad : Bm.err s (N : Int) = 2 := by
            rw [HE.out, if_neg]
            intro hr
            have := (Bm.rest_iff _ _ _).1 hr k (by omega) hlt
            rw [hbit] at this; cases this
          obtain ⟨a, kk, cap, he, hb, _⟩ := unpacked_err (w := wr) hbad (by omega)
          have HF : Hid (Unpacked s (N : Int) w (.returned (.tuple #[.slice none 0 0, .int .i64 2])) wr) := ⟨a, kk, cap, he, hb, hbel⟩
          have HB := Lib.hid hbit
          clear hbit he hb hbad
          go_wp2_with fail
          refine (refBit_in s k _ hs hlt).mono ?_
          rw [HB.out]
          rintro e w1 ⟨rfl, rfl⟩
          go_wp2_with fail
          go_ret2
          exact HF.out
    · have hke : k = 8 * s.size := by omega
      have hlt' : ¬ (k : Int) < 8 * (s.size : Int) := by omega
      have hr : Bm.rest (Bm.bytes s) N s.size = true := (Bm.rest_iff _ _ _).2 fun j h1 h2 => hrest j h1 (by omega)
      have herr : Bm.err s (N : Int) = 0 := by rw [HE.out, if_pos hr]
      have hmin : min k N = N := by have := HZ.out; omega
      rw [hmin] at hown
      obtain ⟨a, cap, rfl, hb⟩ := bools_owned hown hN
      have hpre : pre (Bm.bytes s) N k = Bm.elems s (N : Int) := by
        rw [Bm.elems_ok herr, Int.toNat_natCast]; unfold pre; rw [hmin]
      rw [hpre] at hb
      have HF : Hid (Unpacked s (N : Int) w (.returned (.tuple #[.slice a N cap, .int .i64 0])) wr) := ⟨_, _, _, by rw [herr], hb, hbel⟩
      clear hke hr herr hmin hpre hb hown hrest
      go_wp2_with fail
      go_ret2
      exact HF.out

set_option maxRecDepth 20000 in
set_option maxHeartbeats 1000000 in
theorem refUnpack_any (s : ByteArray) (n : Int) (w : World) (hs : s.size ≤ 140737488351232) :
    Calls Try.prog 15 #[.string s, .int .i64 n] w fun e w' => Unpacked s n w e w' := by
  by_cases h1 : n < 0 ∨ 4096 < n
  · have H := Lib.hid (unpacked_err (s := s) (n := n) (c := 4) (w := w) (by unfold Bm.err; rw [if_pos h1]) (by omega))
    have H1 := Lib.hid h1
    clear h1
    go_enter Try.func15, Try.ntmps15
    go_wp2_with fail
    refine (size_no _ _ H1.out).mono ?_
    rintro e w1 ⟨rfl, rfl⟩
    go_wp2_with fail
    go_ret2
    exact H.out
  obtain ⟨N, rfl⟩ := Int.eq_ofNat_of_zero_le (show 0 ≤ n by omega)
  have hN : N ≤ 4096 := by omega
  by_cases h3 : s.size < (N + 7) / 8
  · have H := Lib.hid (unpacked_err (s := s) (n := (N : Int)) (c := 10) (w := w) (by unfold Bm.err; rw [if_neg h1, Int.toNat_natCast, if_pos h3]) (by omega))
    have h3' : (s.size : Int) < ((N : Int) + 7) / 8 := by omega
    clear h3 h1
    go_enter Try.func15, Try.ntmps15
    go_wp2_with fail
    refine (size_yes _ _ (by omega) (by omega)).mono ?_
    rintro e w1 ⟨rfl, rfl⟩
    go_wp2_with fail
    go_ret2
    exact H.out
  by_cases h4 : (N + 7) / 8 < s.size
  · have H := Lib.hid (unpacked_err (s := s) (n := (N : Int)) (c := 2) (w := w) (by unfold Bm.err; rw [if_neg h1, Int.toNat_natCast, if_neg h3, if_pos h4]) (by omega))
    have h3' : ¬ (s.size : Int) < ((N : Int) + 7) / 8 := by omega
    have h4' : ((N : Int) + 7) / 8 < (s.size : Int) := by omega
    clear h3 h1 h4
    go_enter Try.func15, Try.ntmps15
    go_wp2_with fail
    refine (size_yes _ _ (by omega) (by omega)).mono ?_
    rintro e w1 ⟨rfl, rfl⟩
    go_wp2_with fail
    go_ret2
    exact H.out
  exact refUnpack_in s N w hs hN (by omega)

theorem unpack_any (s : ByteArray) (n : Int) (w : World) (hs : s.size ≤ 140737488351232) :
    Calls Try.prog 14 #[.string s, .int .i64 n] w fun e w' => Unpacked s n w e w' := by
  by_cases h : Bm.err s n = 0
  · exact unpack_yes s n w hs h
  · exact unpack_no s n w hs h
end Go.Proofs.Ytkhnljblfbdkkaa
