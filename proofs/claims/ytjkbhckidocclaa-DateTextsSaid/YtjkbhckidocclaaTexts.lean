/- The walk of the law DateTexts: Parse and its reference agree at every text. -/
import Derived.Test.YtjkbhckidocclaaRefParse
namespace Go.Proofs.Ytjkbhckidocclaa
open Go.RowKit

/-- A slice value of n numbers of one kind that reads as the list l (whatever its address where it is empty). -/
structure NatsIn (k : IntKind) (w : World) (a : Option Addr) (n : Nat) (l : List Nat) : Prop where
  len : l.length = n
  reach : n ≤ 140737488351232
  cells : ∀ t, t < n → ∃ b off, a = some ⟨b, off, none⟩ ∧ b < w.heap.size ∧ w.cell? ⟨b, off + t, none⟩ = some (.int k ((l.getD t 0 : Nat) : Int))

theorem parseOf_two (l : List Nat) : ∃ n c : Int, parseOf l = .returned (.tuple #[.int .i64 n, .int .i64 c]) := by
  unfold parseOf
  split
  · exact daysOf_two _ _ _
  · exact ⟨_, _, rfl⟩

theorem add_small (t b : ByteArray) (ht : t.size ≤ 10) (hb : b.size ≤ 10) (wx : World) : (Op.stringOp .add t b).run Try.prog wx = .ok (.string (t ++ b)) wx :=
  run_string_add_sum (P := Try.prog) wx t b (by omega)

theorem size_one (b : ByteArray) (j : Nat) (h : j < b.size) : (b.extract j (j + 1)).size = 1 := by rw [ByteArray.size_extract]; omega

set_option maxRecDepth 20000 in
set_option maxHeartbeats 2000000 in
theorem law_texts (s : ByteArray) (a : Option Addr) (n cap : Nat) (l : List Nat) (w : World) (hs : s.size ≤ 140737488351232) (hin : NatsIn .u8 w a n l) (hf : ∀ x ∈ l, x < 256) :
    Calls Try.prog 9 #[.string s, .slice a n cap] w fun e w' => e = .returned (.bool true) ∧ Below w.heap.size w w' := by
  have HS := Lib.hid hs
  have HIN := Lib.hid hin
  have HF := Lib.hid hf
  clear hs hin hf
  go_enter Try.func9, Try.ntmps9
  go_wp2_with fail
  go_loop [5, 6] (fun t i => ∃ (k : Nat) (u : ByteArray), k ≤ 10 ∧ i = .int .i64 k ∧ t = .string u ∧ u.size ≤ k) (fun _ i => 10 - (intOf i).toNat)
  case atStart => exact ⟨0, ⟨#[]⟩, Nat.zero_le _, rfl, rfl, Nat.le_refl _⟩
  case round =>
    obtain ⟨k, u, hk, rfl, rfl, hu⟩ := hrel
    by_cases hk10 : k < 10
    · by_cases hlt : k < n
      · obtain ⟨b, off, rfl, hb, hc⟩ := HIN.out.cells k hlt
        have hx : l.getD k 0 < 256 := by
          rw [List.getD_eq_getElem?_getD, List.getElem?_eq_getElem (by rw [HIN.out.len]; exact hlt)]
          exact HF.out _ (List.getElem_mem _)
        generalize l.getD k 0 = x at hc hx
        have i0 : (0 : Int) ≤ (k : Int) := by omega
        have i1 : (k : Int) < (n : Int) := by omega
        by_cases h250 : 250 < x
        · have had := add_small u ⟨#[120]⟩ (by omega) (by decide)
          have hsz : (u ++ (⟨#[120]⟩ : ByteArray)).size = u.size + 1 := by rw [ByteArray.size_append]; rfl
          have HZ := Lib.hid hsz
          clear hsz
          have q1 : (250 : Int) < (x : Int) := by omega
          go_wp2_with fail
          go_round
          case rel => exact ⟨k + 1, _, by omega, by go_num, rfl, by rw [HZ.out]; omega⟩
          case measure => simp [intOf]; omega
        · have q1 : ¬ (250 : Int) < (x : Int) := by omega
          clear h250
          rcases (show k = 4 ∨ k = 7 ∨ k = 0 ∨ k = 5 ∨ k = 8 ∨ (k ≠ 4 ∧ k ≠ 7 ∧ k ≠ 0 ∧ k ≠ 5 ∧ k ≠ 8) from by omega) with h | h | h | h | h | ⟨m4, m7, m0, m5, m8⟩
          · have had := add_small u ⟨#[45]⟩ (by omega) (by decide)
            have hsz : (u ++ (⟨#[45]⟩ : ByteArray)).size = u.size + 1 := by rw [ByteArray.size_append]; rfl
            have HZ := Lib.hid hsz
            have b4 : ((k : Int) == 4) = true := by rw [beq_iff_eq]; omega
            have b7 : ((k : Int) == 7) = false := by rw [beq_eq_false_iff_ne]; omega
            clear hsz h
            go_wp2_with fail
            go_round
            case rel => exact ⟨k + 1, _, by omega, by go_num, rfl, by rw [HZ.out]; omega⟩
            case measure => simp [intOf]; omega
          · have had := add_small u ⟨#[45]⟩ (by omega) (by decide)
            have hsz : (u ++ (⟨#[45]⟩ : ByteArray)).size = u.size + 1 := by rw [ByteArray.size_append]; rfl
            have HZ := Lib.hid hsz
            have b4 : ((k : Int) == 4) = false := by rw [beq_eq_false_iff_ne]; omega
            have b7 : ((k : Int) == 7) = true := by rw [beq_iff_eq]; omega
            clear hsz h
            go_wp2_with fail
            go_round
            case rel => exact ⟨k + 1, _, by omega, by go_num, rfl, by rw [HZ.out]; omega⟩
            case measure => simp [intOf]; omega
          · have hjs : x % 4 + 1 ≤ (⟨#[48, 49, 50, 51]⟩ : ByteArray).size := by show x % 4 + 1 ≤ 4; omega
            have ho := size_one ⟨#[48, 49, 50, 51]⟩ (x % 4) hjs
            have had := add_small u ((⟨#[48, 49, 50, 51]⟩ : ByteArray).extract (x % 4) (x % 4 + 1)) (by omega) (by omega)
            have hsz : (u ++ (⟨#[48, 49, 50, 51]⟩ : ByteArray).extract (x % 4) (x % 4 + 1)).size = u.size + 1 := by rw [ByteArray.size_append, ho]
            have HZ := Lib.hid hsz
            have b4 : ((k : Int) == 4) = false := by rw [beq_eq_false_iff_ne]; omega
            have b7 : ((k : Int) == 7) = false := by rw [beq_eq_false_iff_ne]; omega
            have b0 : ((k : Int) == 0) = true := by rw [beq_iff_eq]; omega
            have b5 : ((k : Int) == 5) = false := by rw [beq_eq_false_iff_ne]; omega
            have b8 : ((k : Int) == 8) = false := by rw [beq_eq_false_iff_ne]; omega
            clear hsz ho h
            go_wp2_with fail
            go_round
            case rel => exact ⟨k + 1, _, by omega, by go_num, rfl, by rw [HZ.out]; omega⟩
            case measure => simp [intOf]; omega
          · have hjs : x % 4 + 1 ≤ (⟨#[48, 49, 50, 51]⟩ : ByteArray).size := by show x % 4 + 1 ≤ 4; omega
            have ho := size_one ⟨#[48, 49, 50, 51]⟩ (x % 4) hjs
            have had := add_small u ((⟨#[48, 49, 50, 51]⟩ : ByteArray).extract (x % 4) (x % 4 + 1)) (by omega) (by omega)
            have hsz : (u ++ (⟨#[48, 49, 50, 51]⟩ : ByteArray).extract (x % 4) (x % 4 + 1)).size = u.size + 1 := by rw [ByteArray.size_append, ho]
            have HZ := Lib.hid hsz
            have b4 : ((k : Int) == 4) = false := by rw [beq_eq_false_iff_ne]; omega
            have b7 : ((k : Int) == 7) = false := by rw [beq_eq_false_iff_ne]; omega
            have b0 : ((k : Int) == 0) = false := by rw [beq_eq_false_iff_ne]; omega
            have b5 : ((k : Int) == 5) = true := by rw [beq_iff_eq]; omega
            have b8 : ((k : Int) == 8) = false := by rw [beq_eq_false_iff_ne]; omega
            clear hsz ho h
            go_wp2_with fail
            go_round
            case rel => exact ⟨k + 1, _, by omega, by go_num, rfl, by rw [HZ.out]; omega⟩
            case measure => simp [intOf]; omega
          · have hjs : x % 4 + 1 ≤ (⟨#[48, 49, 50, 51]⟩ : ByteArray).size := by show x % 4 + 1 ≤ 4; omega
            have ho := size_one ⟨#[48, 49, 50, 51]⟩ (x % 4) hjs
            have had := add_small u ((⟨#[48, 49, 50, 51]⟩ : ByteArray).extract (x % 4) (x % 4 + 1)) (by omega) (by omega)
            have hsz : (u ++ (⟨#[48, 49, 50, 51]⟩ : ByteArray).extract (x % 4) (x % 4 + 1)).size = u.size + 1 := by rw [ByteArray.size_append, ho]
            have HZ := Lib.hid hsz
            have b4 : ((k : Int) == 4) = false := by rw [beq_eq_false_iff_ne]; omega
            have b7 : ((k : Int) == 7) = false := by rw [beq_eq_false_iff_ne]; omega
            have b0 : ((k : Int) == 0) = false := by rw [beq_eq_false_iff_ne]; omega
            have b5 : ((k : Int) == 5) = false := by rw [beq_eq_false_iff_ne]; omega
            have b8 : ((k : Int) == 8) = true := by rw [beq_iff_eq]; omega
            clear hsz ho h
            go_wp2_with fail
            go_round
            case rel => exact ⟨k + 1, _, by omega, by go_num, rfl, by rw [HZ.out]; omega⟩
            case measure => simp [intOf]; omega
          · have hjs : x % 10 + 1 ≤ (⟨#[48, 49, 50, 51, 52, 53, 54, 55, 56, 57]⟩ : ByteArray).size := by show x % 10 + 1 ≤ 10; omega
            have ho := size_one ⟨#[48, 49, 50, 51, 52, 53, 54, 55, 56, 57]⟩ (x % 10) hjs
            have had := add_small u ((⟨#[48, 49, 50, 51, 52, 53, 54, 55, 56, 57]⟩ : ByteArray).extract (x % 10) (x % 10 + 1)) (by omega) (by omega)
            have hsz : (u ++ (⟨#[48, 49, 50, 51, 52, 53, 54, 55, 56, 57]⟩ : ByteArray).extract (x % 10) (x % 10 + 1)).size = u.size + 1 := by rw [ByteArray.size_append, ho]
            have HZ := Lib.hid hsz
            have b4 : ((k : Int) == 4) = false := by rw [beq_eq_false_iff_ne]; omega
            have b7 : ((k : Int) == 7) = false := by rw [beq_eq_false_iff_ne]; omega
            have b0 : ((k : Int) == 0) = false := by rw [beq_eq_false_iff_ne]; omega
            have b5 : ((k : Int) == 5) = false := by rw [beq_eq_false_iff_ne]; omega
            have b8 : ((k : Int) == 8) = false := by rw [beq_eq_false_iff_ne]; omega
            clear hsz ho m4 m7 m0 m5 m8
            go_wp2_with fail
            go_round
            case rel => exact ⟨k + 1, _, by omega, by go_num, rfl, by rw [HZ.out]; omega⟩
            case measure => simp [intOf]; omega
      · have i1 : ¬ (k : Int) < (n : Int) := by omega
        rcases (show k = 4 ∨ k = 7 ∨ k = 0 ∨ k = 5 ∨ k = 8 ∨ (k ≠ 4 ∧ k ≠ 7 ∧ k ≠ 0 ∧ k ≠ 5 ∧ k ≠ 8) from by omega) with h | h | h | h | h | ⟨m4, m7, m0, m5, m8⟩
        · have had := add_small u ⟨#[45]⟩ (by omega) (by decide)
          have hsz : (u ++ (⟨#[45]⟩ : ByteArray)).size = u.size + 1 := by rw [ByteArray.size_append]; rfl
          have HZ := Lib.hid hsz
          have b4 : ((k : Int) == 4) = true := by rw [beq_iff_eq]; omega
          have b7 : ((k : Int) == 7) = false := by rw [beq_eq_false_iff_ne]; omega
          clear hsz h
          go_wp2_with fail
          go_round
          case rel => exact ⟨k + 1, _, by omega, by go_num, rfl, by rw [HZ.out]; omega⟩
          case measure => simp [intOf]; omega
        · have had := add_small u ⟨#[45]⟩ (by omega) (by decide)
          have hsz : (u ++ (⟨#[45]⟩ : ByteArray)).size = u.size + 1 := by rw [ByteArray.size_append]; rfl
          have HZ := Lib.hid hsz
          have b4 : ((k : Int) == 4) = false := by rw [beq_eq_false_iff_ne]; omega
          have b7 : ((k : Int) == 7) = true := by rw [beq_iff_eq]; omega
          clear hsz h
          go_wp2_with fail
          go_round
          case rel => exact ⟨k + 1, _, by omega, by go_num, rfl, by rw [HZ.out]; omega⟩
          case measure => simp [intOf]; omega
        · have hjs : 0 + 1 ≤ (⟨#[48, 49, 50, 51]⟩ : ByteArray).size := by decide
          have ho : ((⟨#[48, 49, 50, 51]⟩ : ByteArray).extract 0 1).size = 1 := size_one ⟨#[48, 49, 50, 51]⟩ 0 hjs
          have had := add_small u ((⟨#[48, 49, 50, 51]⟩ : ByteArray).extract 0 1) (by omega) (by omega)
          have hsz : (u ++ (⟨#[48, 49, 50, 51]⟩ : ByteArray).extract 0 1).size = u.size + 1 := by rw [ByteArray.size_append, ho]
          have HZ := Lib.hid hsz
          have b4 : ((k : Int) == 4) = false := by rw [beq_eq_false_iff_ne]; omega
          have b7 : ((k : Int) == 7) = false := by rw [beq_eq_false_iff_ne]; omega
          have b0 : ((k : Int) == 0) = true := by rw [beq_iff_eq]; omega
          have b5 : ((k : Int) == 5) = false := by rw [beq_eq_false_iff_ne]; omega
          have b8 : ((k : Int) == 8) = false := by rw [beq_eq_false_iff_ne]; omega
          clear hsz ho h
          go_wp2_with fail
          go_round
          case rel => exact ⟨k + 1, _, by omega, by go_num, rfl, by rw [HZ.out]; omega⟩
          case measure => simp [intOf]; omega
        · have hjs : 0 + 1 ≤ (⟨#[48, 49, 50, 51]⟩ : ByteArray).size := by decide
          have ho : ((⟨#[48, 49, 50, 51]⟩ : ByteArray).extract 0 1).size = 1 := size_one ⟨#[48, 49, 50, 51]⟩ 0 hjs
          have had := add_small u ((⟨#[48, 49, 50, 51]⟩ : ByteArray).extract 0 1) (by omega) (by omega)
          have hsz : (u ++ (⟨#[48, 49, 50, 51]⟩ : ByteArray).extract 0 1).size = u.size + 1 := by rw [ByteArray.size_append, ho]
          have HZ := Lib.hid hsz
          have b4 : ((k : Int) == 4) = false := by rw [beq_eq_false_iff_ne]; omega
          have b7 : ((k : Int) == 7) = false := by rw [beq_eq_false_iff_ne]; omega
          have b0 : ((k : Int) == 0) = false := by rw [beq_eq_false_iff_ne]; omega
          have b5 : ((k : Int) == 5) = true := by rw [beq_iff_eq]; omega
          have b8 : ((k : Int) == 8) = false := by rw [beq_eq_false_iff_ne]; omega
          clear hsz ho h
          go_wp2_with fail
          go_round
          case rel => exact ⟨k + 1, _, by omega, by go_num, rfl, by rw [HZ.out]; omega⟩
          case measure => simp [intOf]; omega
        · have hjs : 0 + 1 ≤ (⟨#[48, 49, 50, 51]⟩ : ByteArray).size := by decide
          have ho : ((⟨#[48, 49, 50, 51]⟩ : ByteArray).extract 0 1).size = 1 := size_one ⟨#[48, 49, 50, 51]⟩ 0 hjs
          have had := add_small u ((⟨#[48, 49, 50, 51]⟩ : ByteArray).extract 0 1) (by omega) (by omega)
          have hsz : (u ++ (⟨#[48, 49, 50, 51]⟩ : ByteArray).extract 0 1).size = u.size + 1 := by rw [ByteArray.size_append, ho]
          have HZ := Lib.hid hsz
          have b4 : ((k : Int) == 4) = false := by rw [beq_eq_false_iff_ne]; omega
          have b7 : ((k : Int) == 7) = false := by rw [beq_eq_false_iff_ne]; omega
          have b0 : ((k : Int) == 0) = false := by rw [beq_eq_false_iff_ne]; omega
          have b5 : ((k : Int) == 5) = false := by rw [beq_eq_false_iff_ne]; omega
          have b8 : ((k : Int) == 8) = true := by rw [beq_iff_eq]; omega
          clear hsz ho h
          go_wp2_with fail
          go_round
          case rel => exact ⟨k + 1, _, by omega, by go_num, rfl, by rw [HZ.out]; omega⟩
          case measure => simp [intOf]; omega
        · have hjs : 0 + 1 ≤ (⟨#[48, 49, 50, 51, 52, 53, 54, 55, 56, 57]⟩ : ByteArray).size := by decide
          have ho : ((⟨#[48, 49, 50, 51, 52, 53, 54, 55, 56, 57]⟩ : ByteArray).extract 0 1).size = 1 := size_one ⟨#[48, 49, 50, 51, 52, 53, 54, 55, 56, 57]⟩ 0 hjs
          have had := add_small u ((⟨#[48, 49, 50, 51, 52, 53, 54, 55, 56, 57]⟩ : ByteArray).extract 0 1) (by omega) (by omega)
          have hsz : (u ++ (⟨#[48, 49, 50, 51, 52, 53, 54, 55, 56, 57]⟩ : ByteArray).extract 0 1).size = u.size + 1 := by rw [ByteArray.size_append, ho]
          have HZ := Lib.hid hsz
          have b4 : ((k : Int) == 4) = false := by rw [beq_eq_false_iff_ne]; omega
          have b7 : ((k : Int) == 7) = false := by rw [beq_eq_false_iff_ne]; omega
          have b0 : ((k : Int) == 0) = false := by rw [beq_eq_false_iff_ne]; omega
          have b5 : ((k : Int) == 5) = false := by rw [beq_eq_false_iff_ne]; omega
          have b8 : ((k : Int) == 8) = false := by rw [beq_eq_false_iff_ne]; omega
          clear hsz ho m4 m7 m0 m5 m8
          go_wp2_with fail
          go_round
          case rel => exact ⟨k + 1, _, by omega, by go_num, rfl, by rw [HZ.out]; omega⟩
          case measure => simp [intOf]; omega
    · have hu10 : u.size ≤ 140737488351232 := by omega
      have HU := Lib.hid hu10
      obtain ⟨p1, c1, e1⟩ := parseOf_two (Tx.bytes s)
      obtain ⟨p2, c2, e2⟩ := parseOf_two (Tx.bytes u)
      have E1 := Lib.hid e1
      have E2 := Lib.hid e2
      clear e1 e2 hu10 hu
      go_wp2_with fail
      refine (parse_any _ _ HS.out).mono ?_
      rw [E1.out]
      rintro e w1 ⟨rfl, rfl⟩
      go_wp2_with fail
      refine (refParse_any _ _ HS.out).mono ?_
      rw [E1.out]
      rintro e w1 ⟨rfl, hb1⟩
      go_wp2_with fail
      refine (parse_any _ _ HU.out).mono ?_
      rw [E2.out]
      rintro e w2 ⟨rfl, rfl⟩
      go_wp2_with fail
      refine (refParse_any _ _ HU.out).mono ?_
      rw [E2.out]
      rintro e w2 ⟨rfl, hb2⟩
      have hb := hb1.trans (hb2.mono hb1.size)
      clear hb1 hb2
      go_wp2_with fail
      refine (awake_any _).mono ?_
      rintro e w3 ⟨rfl, rfl⟩
      go_wp2_with fail
      go_ret
      exact ⟨rfl, hb⟩
end Go.Proofs.Ytjkbhckidocclaa
