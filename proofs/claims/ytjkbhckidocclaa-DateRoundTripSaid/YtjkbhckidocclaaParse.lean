/- The contracts of digits, of Parse and of its reference. -/
import Derived.Test.YtjkbhckidocclaaDays
import Derived.Test.YtjkbhckidocclaaText
namespace Go.Proofs.Ytjkbhckidocclaa
open Go.RowKit

/-- What digits answers. -/
def digitsOf (l : List Nat) : Ending := if Tx.digs l = true then .returned (.tuple #[.int .i64 (Tx.val l), .bool true]) else .returned (.tuple #[.int .i64 0, .bool false])

set_option maxRecDepth 20000 in
set_option maxHeartbeats 1000000 in
theorem digits_any (s : ByteArray) (w : World) (hs : s.size ≤ 10) :
    Calls Try.prog 27 #[.string s] w fun e w' => e = digitsOf (Tx.bytes s) ∧ w = w' := by
  have hL := Tx.length_bytes s
  have HL := Lib.hid hL
  clear hL
  go_enter Try.func27, Try.ntmps27
  go_wp2_with fail
  go_loop [4, 8] (fun n i => ∃ k : Nat, k ≤ s.size ∧ i = .int .i64 k ∧ n = .int .i64 (Tx.val ((Tx.bytes s).take k)) ∧ Tx.digs ((Tx.bytes s).take k) = true) (fun _ i => s.size - (intOf i).toNat)
  case atStart => exact ⟨0, Nat.zero_le _, rfl, rfl, rfl⟩
  case round =>
    obtain ⟨k, hk, rfl, rfl, hd⟩ := hrel
    have hv2 := Tx.val_take_small (Tx.bytes s) k (by rw [HL.out]; exact hk) (by omega) hd
    have HD := Lib.hid hd
    clear hd
    by_cases hlt : k < s.size
    · have hg := Tx.bytes_get s k hlt
      have HG := Lib.hid hg
      clear hg
      have hc8 : s[k].toNat < 256 := s[k].toNat_lt
      by_cases hbad : Tx.dig (s[k].toNat) = true
      · have HS : Hid (Tx.val ((Tx.bytes s).take (k + 1)) = 10 * Tx.val ((Tx.bytes s).take k) + ((s[k].toNat : Int) - 48)) := by
          show Tx.val _ = _
          rw [Tx.take_snoc _ _ (by rw [HL.out]; exact hlt), Tx.val_snoc, HG.out]
        have HD2 : Hid (Tx.digs ((Tx.bytes s).take (k + 1)) = true) := by
          show Tx.digs _ = _
          rw [Tx.take_snoc _ _ (by rw [HL.out]; exact hlt), Tx.digs_snoc, HG.out, HD.out, hbad]; rfl
        obtain ⟨c1, c2⟩ := (Tx.dig_iff _).1 hbad
        generalize Tx.val ((Tx.bytes s).take k) = v at hv2 HS
        have c1' : (48 : Int) ≤ (s[k].toNat : Int) := by omega
        have c2' : (s[k].toNat : Int) ≤ 57 := by omega
        clear hbad c1 c2 hc8
        go_wp2_with fail
        go_round
        case rel => exact ⟨k + 1, by omega, by go_num, by rw [HS.out], HD2.out⟩
        case measure => simp [intOf]; omega
      · have hfin : digitsOf (Tx.bytes s) = .returned (.tuple #[.int .i64 0, .bool false]) := by
          unfold digitsOf
          rw [Tx.digs_take_bad (Tx.bytes s) k (by rw [HL.out]; exact hlt) (by rw [HG.out]; simpa using hbad)]
          rfl
        have HF := Lib.hid hfin
        have hor : s[k].toNat < 48 ∨ 57 < s[k].toNat := by
          rw [Tx.dig_iff] at hbad; omega
        clear hfin hbad hc8
        rcases hor with h | h
        · have c1' : (s[k].toNat : Int) < 48 := by omega
          clear h
          go_wp2_with fail
          go_ret2
          exact ⟨by rw [HF.out]; rfl, rfl⟩
        · have c1' : (57 : Int) < (s[k].toNat : Int) := by omega
          have c2' : ¬ (s[k].toNat : Int) < 48 := by omega
          clear h
          go_wp2_with fail
          go_ret2
          exact ⟨by rw [HF.out]; rfl, rfl⟩
    · obtain rfl : k = s.size := by omega
      have hall : (Tx.bytes s).take s.size = Tx.bytes s := List.take_of_length_le (by rw [HL.out]; omega)
      have hfin : digitsOf (Tx.bytes s) = .returned (.tuple #[.int .i64 (Tx.val ((Tx.bytes s).take s.size)), .bool true]) := by
        unfold digitsOf
        rw [hall, if_pos (by rw [← hall]; exact HD.out)]
      have HF := Lib.hid hfin
      clear hfin hall
      go_wp2_with fail
      go_ret2
      exact ⟨by rw [HF.out]; rfl, rfl⟩

/-- What Parse answers where the form is missed. -/
def errForm : Ending := .returned (.tuple #[.int .i64 0, .int .i64 2])

/-- Does a text have the form of a date? -/
def formed (l : List Nat) : Bool := decide (l.length = 10 ∧ l.getD 4 0 = 45 ∧ l.getD 7 0 = 45) && (Tx.digs (l.take 4) && Tx.digs ((l.drop 5).take 2) && Tx.digs (l.drop 8))

/-- What Parse answers. -/
def parseOf (l : List Nat) : Ending := if formed l = true then daysOf (Tx.val (l.take 4)) (Tx.val ((l.drop 5).take 2)) (Tx.val (l.drop 8)) else errForm

theorem parse_bad {l : List Nat} (h : formed l = false) : parseOf l = .returned (.tuple #[.int .i64 0, .int .i64 2]) := by unfold parseOf; rw [h]; rfl

theorem digitsOf_two (l : List Nat) : ∃ n : Int, digitsOf l = .returned (.tuple #[.int .i64 n, .bool (Tx.digs l)]) ∧ (Tx.digs l = true → n = Tx.val l) := by
  unfold digitsOf
  cases h : Tx.digs l
  · exact ⟨0, rfl, fun h => by cases h⟩
  · exact ⟨_, rfl, fun _ => rfl⟩

set_option maxRecDepth 20000 in
set_option maxHeartbeats 2000000 in
theorem parse_any (s : ByteArray) (w : World) (hs : s.size ≤ 140737488351232) :
    Calls Try.prog 21 #[.string s] w fun e w' => e = parseOf (Tx.bytes s) ∧ w = w' := by
  have hL := Tx.length_bytes s
  by_cases h10 : s.size = 10
  · have i4 : 4 < s.size := by omega
    have i7 : 7 < s.size := by omega
    have g4 := Tx.bytes_get s 4 i4
    have g7 := Tx.bytes_get s 7 i7
    by_cases h4 : s[4].toNat = 45
    · by_cases h7 : s[7].toNat = 45
      · obtain ⟨n1, hd1, hv1⟩ := digitsOf_two ((Tx.bytes s).take 4)
        obtain ⟨n2, hd2, hv2⟩ := digitsOf_two (((Tx.bytes s).drop 5).take 2)
        obtain ⟨n3, hd3, hv3⟩ := digitsOf_two ((Tx.bytes s).drop 8)
        have HF : Hid (formed (Tx.bytes s) = (Tx.digs ((Tx.bytes s).take 4) && Tx.digs (((Tx.bytes s).drop 5).take 2) && Tx.digs ((Tx.bytes s).drop 8))) := by
          show formed _ = _
          unfold formed; rw [g4, g7, hL]; simp [h4, h7, h10]
        have H1 : Hid (digitsOf (Tx.bytes (s.extract 0 4)) = .returned (.tuple #[.int .i64 n1, .bool (Tx.digs ((Tx.bytes s).take 4))])) := by
          show digitsOf _ = _
          rw [← hd1, Tx.bytes_extract]; rfl
        have H2 : Hid (digitsOf (Tx.bytes (s.extract 5 7)) = .returned (.tuple #[.int .i64 n2, .bool (Tx.digs (((Tx.bytes s).drop 5).take 2))])) := by
          show digitsOf _ = _
          rw [← hd2, Tx.bytes_extract]
        have H3 : Hid (digitsOf (Tx.bytes (s.extract 8 s.size)) = .returned (.tuple #[.int .i64 n3, .bool (Tx.digs ((Tx.bytes s).drop 8))])) := by
          show digitsOf _ = _
          rw [← hd3, Tx.bytes_extract, List.take_of_length_le (by rw [List.length_drop, hL]; exact Nat.le_refl _)]
        have HV : Hid (formed (Tx.bytes s) = true → parseOf (Tx.bytes s) = daysOf n1 n2 n3) := by
          intro h
          have hf := h
          rw [HF.out, Bool.and_eq_true, Bool.and_eq_true] at hf
          unfold parseOf
          rw [if_pos h, hv1 hf.1.1, hv2 hf.1.2, hv3 hf.2]
        have HP : Hid (formed (Tx.bytes s) = false → parseOf (Tx.bytes s) = .returned (.tuple #[.int .i64 0, .int .i64 2])) := fun h => parse_bad h
        have n4 : ((s[4].toNat : Int) != 45) = false := by rw [bne_eq_false_iff_eq]; omega
        have n7 : ((s[7].toNat : Int) != 45) = false := by rw [bne_eq_false_iff_eq]; omega
        have j4 : (4 : Int) < (s.size : Int) := by omega
        have j7 : (7 : Int) < (s.size : Int) := by omega
        have k4 : 4 ≤ s.size := by omega
        have k7 : 7 ≤ s.size := by omega
        have k8 : 8 ≤ s.size := by omega
        have e10 : ((s.size : Int) != 10) = false := by rw [bne_eq_false_iff_eq]; omega
        have z1 : (s.extract 0 4).size ≤ 10 := by rw [ByteArray.size_extract]; omega
        have z2 : (s.extract 5 7).size ≤ 10 := by rw [ByteArray.size_extract]; omega
        have z3 : (s.extract 8 s.size).size ≤ 10 := by rw [ByteArray.size_extract]; omega
        have Z1 := Lib.hid z1
        have Z2 := Lib.hid z2
        have Z3 := Lib.hid z3
        clear h4 h7 g4 g7 hL hd1 hd2 hd3 hv1 hv2 hv3 h10 z1 z2 z3
        generalize Tx.digs ((Tx.bytes s).take 4) = b1 at HF H1
        generalize Tx.digs (((Tx.bytes s).drop 5).take 2) = b2 at HF H2
        generalize Tx.digs ((Tx.bytes s).drop 8) = b3 at HF H3
        cases b1 <;> cases b2 <;> cases b3
        case true.true.true =>
          have hp := HV.out HF.out
          obtain ⟨n, c, hn⟩ := daysOf_two n1 n2 n3
          have HQ := Lib.hid (hp.trans hn)
          have HN := Lib.hid hn
          clear hp hn
          go_enter Try.func21, Try.ntmps21
          go_wp2_with fail
          refine (digits_any _ _ Z1.out).mono ?_
          rw [H1.out]
          rintro e w1 ⟨rfl, rfl⟩
          go_wp2_with fail
          refine (digits_any _ _ Z2.out).mono ?_
          rw [H2.out]
          rintro e w1 ⟨rfl, rfl⟩
          go_wp2_with fail
          refine (digits_any _ _ Z3.out).mono ?_
          rw [H3.out]
          rintro e w1 ⟨rfl, rfl⟩
          go_wp2_with fail
          refine (days_any _ _ _ _).mono ?_
          rw [HN.out]
          rintro e w1 ⟨rfl, rfl⟩
          go_wp2_with fail
          go_ret2
          exact ⟨by rw [HQ.out]; rfl, rfl⟩
        all_goals
          have HQ := Lib.hid (HP.out HF.out)
          go_enter Try.func21, Try.ntmps21
          go_wp2_with fail
          refine (digits_any _ _ Z1.out).mono ?_
          rw [H1.out]
          rintro e w1 ⟨rfl, rfl⟩
          go_wp2_with fail
          refine (digits_any _ _ Z2.out).mono ?_
          rw [H2.out]
          rintro e w1 ⟨rfl, rfl⟩
          go_wp2_with fail
          refine (digits_any _ _ Z3.out).mono ?_
          rw [H3.out]
          rintro e w1 ⟨rfl, rfl⟩
          go_wp2_with fail
          go_ret2
          exact ⟨by rw [HQ.out]; rfl, rfl⟩
      · have hf := parse_bad (l := Tx.bytes s) (by unfold formed; rw [g4, g7]; simp [h7])
        have HF := Lib.hid hf
        have n4 : ((s[4].toNat : Int) != 45) = false := by rw [bne_eq_false_iff_eq]; omega
        have n7 : ((s[7].toNat : Int) != 45) = true := by rw [bne_iff_ne]; omega
        have j4 : (4 : Int) < (s.size : Int) := by omega
        have j7 : (7 : Int) < (s.size : Int) := by omega
        have e10 : ((s.size : Int) != 10) = false := by rw [bne_eq_false_iff_eq]; omega
        clear hf h4 h7 g4 g7 hL h10
        go_enter Try.func21, Try.ntmps21
        go_wp2_with fail
        go_ret2
        exact ⟨by rw [HF.out]; rfl, rfl⟩
    · have hf := parse_bad (l := Tx.bytes s) (by unfold formed; rw [g4, g7]; simp [h4])
      have HF := Lib.hid hf
      have n4 : ((s[4].toNat : Int) != 45) = true := by rw [bne_iff_ne]; omega
      have j4 : (4 : Int) < (s.size : Int) := by omega
      have e10 : ((s.size : Int) != 10) = false := by rw [bne_eq_false_iff_eq]; omega
      clear hf h4 g4 g7 hL h10
      go_enter Try.func21, Try.ntmps21
      go_wp2_with fail
      go_ret2
      exact ⟨by rw [HF.out]; rfl, rfl⟩
  · have hf := parse_bad (l := Tx.bytes s) (by unfold formed; rw [hL]; simp [h10])
    have HF := Lib.hid hf
    have e10 : ((s.size : Int) != 10) = true := by rw [bne_iff_ne]; omega
    clear hf hL h10
    go_enter Try.func21, Try.ntmps21
    go_wp2_with fail
    go_ret2
    exact ⟨by rw [HF.out]; rfl, rfl⟩
end Go.Proofs.Ytjkbhckidocclaa
