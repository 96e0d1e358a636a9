/- The contracts of crc.step, crc.Sum, crc.Join and of their references. -/
import Derived.Test.YtgngcnpebfhclaaProg
import Derived.Test.YtgngcnpebfhclaaPlain
import Derived.WalkKit
import Derived.WalkSpells
import Derived.WalkLawsBesides
import Derived.Lib.Hide
namespace Go.Proofs.Ytgngcnpebfhclaa
open Go.RowKit

/-- A slice value of n numbers of one kind that reads as the list l (whatever its address where it is empty). -/
structure NatsIn (k : IntKind) (w : World) (a : Option Addr) (n : Nat) (l : List Nat) : Prop where
  len : l.length = n
  reach : n ≤ 140737488351232
  cells : ∀ t, t < n → ∃ b off, a = some ⟨b, off, none⟩ ∧ b < w.heap.size ∧ w.cell? ⟨b, off + t, none⟩ = some (.int k ((l.getD t 0 : Nat) : Int))

theorem NatsIn.later {k : IntKind} {w w' : World} {a : Option Addr} {n : Nat} {l : List Nat} (h : NatsIn k w a n l) (hb : Below w.heap.size w w') : NatsIn k w' a n l :=
  ⟨h.len, h.reach, fun t ht => let ⟨b, off, e, hlt, hc⟩ := h.cells t ht; ⟨b, off, e, by have := hb.size; omega, (hb.cell (by exact hlt)).trans hc⟩⟩

set_option maxRecDepth 20000 in
set_option maxHeartbeats 400000 in
theorem step_any (a : Option Addr) (cap : Nat) (l : List Nat) (v b : Nat) (w : World) (hin : NatsIn .u32 w a 256 l) (hf : Cs.fits l) (hv : v < 4294967296) (hb : b < 256) :
    Calls Try.prog 21 #[.slice a 256 cap, .int .u32 (v : Int), .int .u8 (b : Int)] w fun e w' => e = .returned (.int .u32 ((Cs.step l v b : Nat) : Int)) ∧ w = w' := by
  have hi := Cs.xor_idx v b hb
  obtain ⟨bl, off, rfl, hlt, hc⟩ := hin.cells _ hi
  have hx := Cs.walk_idx v b hb
  have hs := Cs.walk_step hf v b hv
  generalize v % 256 ^^^ b = j at hi hc hx hs
  generalize l.getD j 0 = x at hc hs
  clear hv hf hb hin
  go_enter Try.func21, Try.ntmps21
  go_wp2_with fail
  go_ret
  exact ⟨rfl, rfl⟩

set_option maxRecDepth 20000 in
set_option maxHeartbeats 400000 in
/-- Sum with a table of 256 elements. -/
theorem sum_256 (a : Option Addr) (cap : Nat) (l : List Nat) (s : ByteArray) (w : World) (hin : NatsIn .u32 w a 256 l) (hf : Cs.fits l) (hs : s.size ≤ 140737488351232) :
    Calls Try.prog 10 #[.slice a 256 cap, .string s] w fun e w' => e = .returned (.int .u32 ((Cs.sum l (Cs.bytes s) : Nat) : Int)) ∧ w = w' := by
  have HIN := Lib.hid hin
  have HF := Lib.hid hf
  clear hin hf
  go_enter Try.func10, Try.ntmps10
  go_wp2_with fail
  go_loop [5, 12] (fun v i => ∃ k : Nat, k ≤ s.size ∧ i = .int .i64 k ∧ v = .int .u32 ((Cs.run l 4294967295 ((Cs.bytes s).take k) : Nat) : Int)) (fun _ i => s.size - (intOf i).toNat)
  case atStart => exact ⟨0, Nat.zero_le _, rfl, rfl⟩
  case round =>
    obtain ⟨k, hk, rfl, rfl⟩ := hrel
    have hv := Cs.run_lt HF.out ((Cs.bytes s).take k) 4294967295 (by decide)
    by_cases hlt : k < s.size
    · have HR : Hid (Cs.run l 4294967295 ((Cs.bytes s).take (k + 1)) = Cs.step l (Cs.run l 4294967295 ((Cs.bytes s).take k)) s[k].toNat) := by
        rw [Cs.take_snoc _ _ (by rw [Cs.length_bytes]; exact hlt), Cs.run_snoc, Cs.bytes_get s k hlt]; exact rfl
      generalize Cs.run l 4294967295 ((Cs.bytes s).take k) = v at hv HR
      have HV := Lib.hid hv
      clear hv
      have hb8 : s[k].toNat < 256 := s[k].toNat_lt
      have HB := Lib.hid hb8
      clear hb8
      go_wp2_with fail
      refine (step_any a cap l v _ _ HIN.out HF.out HV.out HB.out).mono ?_
      rintro e w' ⟨rfl, rfl⟩
      go_wp2_with fail
      go_round
      case rel => exact ⟨k + 1, by omega, by go_num, by rw [HR.out]⟩
      case measure => simp [intOf]; omega
    · obtain rfl : k = s.size := by omega
      have HS : Hid (Cs.sum l (Cs.bytes s) = 4294967295 ^^^ Cs.run l 4294967295 ((Cs.bytes s).take s.size)) := by
        show Cs.sum _ _ = _
        unfold Cs.sum
        rw [if_pos HIN.out.len, List.take_of_length_le (by rw [Cs.length_bytes]; omega)]
      have hn := Cs.walk_not _ hv
      generalize Cs.run l 4294967295 ((Cs.bytes s).take s.size) = v at hv hn HS
      have HV := Lib.hid hv
      clear hv
      go_wp2_with fail
      go_ret
      exact ⟨by rw [HS.out]; exact rfl, rfl⟩

set_option maxRecDepth 20000 in
set_option maxHeartbeats 400000 in
theorem sum_not256 (a : Option Addr) (n cap : Nat) (l : List Nat) (s : ByteArray) (w : World) (hl : l.length = n) (hn : n ≠ 256) :
    Calls Try.prog 10 #[.slice a n cap, .string s] w fun e w' => e = .returned (.int .u32 ((Cs.sum l (Cs.bytes s) : Nat) : Int)) ∧ w = w' := by
  have h0 : Cs.sum l (Cs.bytes s) = 0 := Cs.sum_other _ _ (by omega)
  have hne : ((n : Int) != 256) = true := by rw [bne_iff_ne]; omega
  rw [h0]
  clear h0
  go_enter Try.func10, Try.ntmps10
  go_wp2_with fail
  go_ret
  exact ⟨rfl, rfl⟩

theorem sum_any (a : Option Addr) (n cap : Nat) (l : List Nat) (s : ByteArray) (w : World) (hin : NatsIn .u32 w a n l) (hf : Cs.fits l) (hs : s.size ≤ 140737488351232) :
    Calls Try.prog 10 #[.slice a n cap, .string s] w fun e w' => e = .returned (.int .u32 ((Cs.sum l (Cs.bytes s) : Nat) : Int)) ∧ w = w' := by
  by_cases hn : n = 256
  · subst hn; exact sum_256 a cap l s w hin hf hs
  · exact sum_not256 a n cap l s w hin.len hn

set_option maxRecDepth 20000 in
set_option maxHeartbeats 400000 in
theorem refSum_256 (a : Option Addr) (cap : Nat) (l : List Nat) (s : ByteArray) (w : World) (hin : NatsIn .u32 w a 256 l) (hf : Cs.fits l) (hs : s.size ≤ 140737488351232) :
    Calls Try.prog 14 #[.slice a 256 cap, .string s] w fun e w' => e = .returned (.int .u32 ((Cs.sum l (Cs.bytes s) : Nat) : Int)) ∧ w = w' := by
  have HIN := Lib.hid hin
  have HF := Lib.hid hf
  obtain ⟨bl, off, rfl, _, _⟩ := hin.cells 0 (by omega)
  clear hin hf
  go_enter Try.func14, Try.ntmps14
  go_wp2_with fail
  go_loop [5, 6] (fun v i => ∃ k : Nat, k ≤ s.size ∧ i = .int .i64 k ∧ v = .int .u32 ((Cs.run l 4294967295 ((Cs.bytes s).take k) : Nat) : Int)) (fun _ i => s.size - (intOf i).toNat)
  case atStart => exact ⟨0, Nat.zero_le _, rfl, rfl⟩
  case round =>
    obtain ⟨k, hk, rfl, rfl⟩ := hrel
    have hv := Cs.run_lt HF.out ((Cs.bytes s).take k) 4294967295 (by decide)
    by_cases hlt : k < s.size
    · have HR : Hid (Cs.run l 4294967295 ((Cs.bytes s).take (k + 1)) = Cs.step l (Cs.run l 4294967295 ((Cs.bytes s).take k)) s[k].toNat) := by
        rw [Cs.take_snoc _ _ (by rw [Cs.length_bytes]; exact hlt), Cs.run_snoc, Cs.bytes_get s k hlt]; exact rfl
      generalize Cs.run l 4294967295 ((Cs.bytes s).take k) = v at hv HR
      have hb8 : s[k].toNat < 256 := s[k].toNat_lt
      have hi := Cs.xor_idx v s[k].toNat hb8
      have hx := Cs.walk_idx v s[k].toNat hb8
      have hst := Cs.walk_step HF.out v s[k].toNat hv
      obtain ⟨bl', off', hcat, hltb, hc⟩ := HIN.out.cells _ hi
      simp only [Option.some.injEq, Addr.mk.injEq, and_true] at hcat
      obtain ⟨rfl, rfl⟩ := hcat
      generalize v % 256 ^^^ s[k].toNat = j at hi hc hx hst
      generalize l.getD j 0 = x at hc hst
      clear hv hb8
      go_wp2_with fail
      go_round
      case rel => exact ⟨k + 1, by omega, by go_num, by rw [HR.out]⟩
      case measure => simp [intOf]; omega
    · obtain rfl : k = s.size := by omega
      have HS : Hid (Cs.sum l (Cs.bytes s) = 4294967295 ^^^ Cs.run l 4294967295 ((Cs.bytes s).take s.size)) := by
        show Cs.sum _ _ = _
        unfold Cs.sum
        rw [if_pos HIN.out.len, List.take_of_length_le (by rw [Cs.length_bytes]; omega)]
      have hn := Cs.walk_not _ hv
      generalize Cs.run l 4294967295 ((Cs.bytes s).take s.size) = v at hv hn HS
      have HV := Lib.hid hv
      clear hv
      go_wp2_with fail
      go_ret
      exact ⟨by rw [HS.out]; exact rfl, rfl⟩

set_option maxRecDepth 20000 in
set_option maxHeartbeats 400000 in
theorem refSum_not256 (a : Option Addr) (n cap : Nat) (l : List Nat) (s : ByteArray) (w : World) (hl : l.length = n) (hn : n ≠ 256) :
    Calls Try.prog 14 #[.slice a n cap, .string s] w fun e w' => e = .returned (.int .u32 ((Cs.sum l (Cs.bytes s) : Nat) : Int)) ∧ w = w' := by
  have h0 : Cs.sum l (Cs.bytes s) = 0 := Cs.sum_other _ _ (by omega)
  have hne : ((n : Int) != 256) = true := by rw [bne_iff_ne]; omega
  rw [h0]
  clear h0
  go_enter Try.func14, Try.ntmps14
  go_wp2_with fail
  go_ret
  exact ⟨rfl, rfl⟩

theorem refSum_any (a : Option Addr) (n cap : Nat) (l : List Nat) (s : ByteArray) (w : World) (hin : NatsIn .u32 w a n l) (hf : Cs.fits l) (hs : s.size ≤ 140737488351232) :
    Calls Try.prog 14 #[.slice a n cap, .string s] w fun e w' => e = .returned (.int .u32 ((Cs.sum l (Cs.bytes s) : Nat) : Int)) ∧ w = w' := by
  by_cases hn : n = 256
  · subst hn; exact refSum_256 a cap l s w hin hf hs
  · exact refSum_not256 a n cap l s w hin.len hn
end Go.Proofs.Ytgngcnpebfhclaa
