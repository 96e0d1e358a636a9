/- The contracts of nulls.Pack and of its reference: each returns the bytes of 'Bm.pack'. -/
import Derived.Test.YtkhnljblfbdkkaaProg
import Derived.Test.YtkhnljblfbdkkaaPlain
import Derived.Test.YtkhnljblfbdkkaaKit
import Derived.WalkKit
import Derived.WalkSpells
import Derived.WalkLawsBesides
import Derived.BigRegion
import Derived.ChangeAlike
import Derived.Lib.Hide
namespace Go.Proofs.Ytkhnljblfbdkkaa
open Go.RowKit

theorem info5 : (Try.prog.info? 5).map (fun i => (i.zero, i.size, i.bytes)) = some (some (.int .u8 0), 1, 1) := by kernel_rfl

/-- The bool in a slot. -/
def boolOf : Value → Bool | .bool b => b | _ => false

/-- A slice value of n bools that reads as the list l (whatever its address where it is empty). -/
structure BoolsIn (w : World) (a : Option Addr) (n : Nat) (l : List Bool) : Prop where
  len : l.length = n
  reach : n ≤ 140737488351232
  cells : ∀ t, t < n → ∃ b off, a = some ⟨b, off, none⟩ ∧ b < w.heap.size ∧ w.cell? ⟨b, off + t, none⟩ = some (.bool (l.getD t false))

set_option maxHeartbeats 1000000 in
theorem pack_any (a : Option Addr) (n cap : Nat) (l : List Bool) (w : World) (hin : BoolsIn w a n l) :
    Calls Try.prog 11 #[.slice a n cap] w fun e w' => e = .returned (.string (strOf (Bm.pack l))) ∧ Below w.heap.size w w' := by
  obtain ⟨hl, hr, hc⟩ := hin
  have hpk : Bm.pack l = Bm.packTo ((n + 7) / 8) l n := by unfold Bm.pack; rw [hl]
  rw [hpk]
  clear hpk
  obtain ⟨i0, hi, hz0, hz1, hz2⟩ := info_parts info5
  go_enter Try.func11, Try.ntmps11
  go_wp2_with (at_make; refine wpList_make_full _ rfl _ _ 34 rfl w.heap.size 5 i0 (.int .u8 0) 1 Try.underlying34 hi hz0 hz1 _ _ _ _ ((n + 7) / 8) rfl rfl (by omega) (by omega) ?b2 ?b3 (Nat.le_refl _) ?_)
  case b2 => rw [hz2]; omega
  case b3 => unfold maxLen; omega
  intro w0 hown0 hgrow0
  go_wp2
  go_loopw [13] (fun i wr => ∃ k : Nat, k ≤ n ∧ i = .int .i64 k ∧
      wr.ownsRow w.heap.size 5 1 (.slice (some ⟨w.heap.size, 0, none⟩) ((n + 7) / 8) ((n + 7) / 8)) ((n + 7) / 8) (u8s (Bm.packTo ((n + 7) / 8) l k)) ∧ Below w.heap.size w wr)
    (fun i _ => n - (intOf i).toNat)
  case atStart => exact ⟨0, Nat.zero_le _, rfl, by simpa [Bm.packTo, u8s_zero] using hown0, (Below.refl _ _).grown hgrow0 (Nat.le_refl _) (fun k h => by cases h)⟩
  case round =>
    obtain ⟨k, hk, rfl, hown, hbel⟩ := hrel
    by_cases hlt : k < n
    · obtain ⟨b, off, rfl, hb, hcell⟩ := hc k hlt
      have hck : wr.cell? ⟨b, off + k, none⟩ = some (.bool (l.getD k false)) := (hbel.cell (by exact hb)).trans hcell
      clear hc hcell
      cases hbit : l.getD k false
      · rw [hbit] at hck
        have hs : Bm.packTo ((n + 7) / 8) l (k + 1) = Bm.packTo ((n + 7) / 8) l k := by rw [Bm.packTo, hbit]; simp
        rw [← hs] at hown
        clear hs hbit
        go_wp2
        go_roundw
        case rel => exact ⟨k + 1, by omega, by go_num, hown, hbel⟩
        case measure => simp [intOf]; omega
      · rw [hbit] at hck
        have hm : k / 8 < (n + 7) / 8 := by omega
        have hL := Bm.length_packTo ((n + 7) / 8) l k
        have hx := hown.cellAt (k / 8) (by omega)
        rw [u8s_get _ _ (by omega)] at hx
        have hx8 : (Bm.packTo ((n + 7) / 8) l k).getD (k / 8) 0 < 256 := Bm.getD_packTo_lt _ _ _ _
        have hfz := hown.frozenAt (k / 8)
        have hs : Bm.packTo ((n + 7) / 8) l (k + 1) = (Bm.packTo ((n + 7) / 8) l k).set (k / 8) ((Bm.packTo ((n + 7) / 8) l k).getD (k / 8) 0 ||| 2 ^ (k % 8)) := by rw [Bm.packTo, hbit]; simp [Bm.orAt]
        have hst := hown.stored (k / 8) (.int .u8 (((Bm.packTo ((n + 7) / 8) l k).getD (k / 8) 0 ||| 2 ^ (k % 8) : Nat) : Int))
        rw [u8s_set, ← hs] at hst
        clear hs hL hbit hown
        generalize (Bm.packTo ((n + 7) / 8) l k).getD (k / 8) 0 = x at hx hx8 hst
        have hor := Bm.or_walk x (k % 8) hx8 (by omega)
        have HST := Lib.hid hst
        have HOR := Lib.hid hor
        clear hst hor
        have h1 : (0 : Int) ≤ (k : Int) / 8 := by omega
        have h2 : (k : Int) / 8 < (((n + 7) / 8 : Nat) : Int) := by omega
        go_wp2
        go_region
        go_wp2
        go_roundw
        case rel =>
          rw [HOR.out]
          exact ⟨k + 1, by omega, by go_num, HST.out.1.drew, (hbel.setCell (Nat.le_refl _) _).drew⟩
        case measure => simp [intOf]; omega
    · obtain rfl : k = n := by omega
      have hcv := run_string_own (P := Try.prog) wr w.heap.size 34 9 5 Try.underlying34 Try.underlying5 Try.underlying9 _ _ _ _ hown
      clear hc
      go_wp2
      go_ret
      exact ⟨rfl, hbel⟩

set_option maxHeartbeats 1000000 in
theorem packBits_any (a : Option Addr) (n cap : Nat) (l : List Bool) (w : World) (hin : BoolsIn w a n l) :
    Calls Try.prog 12 #[.slice a n cap] w fun e w' => e = .returned (.string (strOf (Bm.pack l))) ∧ Below w.heap.size w w' := by
  obtain ⟨hl, hr, hc⟩ := hin
  have hpk : Bm.pack l = Bm.packTo ((n + 7) / 8) l n := by unfold Bm.pack; rw [hl]
  rw [hpk]
  clear hpk
  obtain ⟨i0, hi, hz0, hz1, hz2⟩ := info_parts info5
  go_enter Try.func12, Try.ntmps12
  go_wp2_with (at_make; refine wpList_make_full _ rfl _ _ 34 rfl w.heap.size 5 i0 (.int .u8 0) 1 Try.underlying34 hi hz0 hz1 _ _ _ _ ((n + 7) / 8) rfl rfl (by omega) (by omega) ?b2 ?b3 (Nat.le_refl _) ?_)
  case b2 => rw [hz2]; omega
  case b3 => unfold maxLen; omega
  intro w0 hown0 hgrow0
  go_wp2
  go_loopw [13] (fun i wr => ∃ k : Nat, k ≤ n ∧ i = .int .i64 k ∧
      wr.ownsRow w.heap.size 5 1 (.slice (some ⟨w.heap.size, 0, none⟩) ((n + 7) / 8) ((n + 7) / 8)) ((n + 7) / 8) (u8s (Bm.packTo ((n + 7) / 8) l k)) ∧ Below w.heap.size w wr)
    (fun i _ => n - (intOf i).toNat)
  case atStart => exact ⟨0, Nat.zero_le _, rfl, by simpa [Bm.packTo, u8s_zero] using hown0, (Below.refl _ _).grown hgrow0 (Nat.le_refl _) (fun k h => by cases h)⟩
  case round =>
    obtain ⟨k, hk, rfl, hown, hbel⟩ := hrel
    by_cases hlt : k < n
    · obtain ⟨b, off, rfl, hb, hcell⟩ := hc k hlt
      have hck : wr.cell? ⟨b, off + k, none⟩ = some (.bool (l.getD k false)) := (hbel.cell (by exact hb)).trans hcell
      clear hc hcell
      cases hbit : l.getD k false
      · rw [hbit] at hck
        have hs : Bm.packTo ((n + 7) / 8) l (k + 1) = Bm.packTo ((n + 7) / 8) l k := by rw [Bm.packTo, hbit]; simp
        rw [← hs] at hown
        clear hs hbit
        go_wp2
        go_roundw
        case rel => exact ⟨k + 1, by omega, by go_num, hown, hbel⟩
        case measure => simp [intOf]; omega
      · rw [hbit] at hck
        have hm : k / 8 < (n + 7) / 8 := by omega
        have hL := Bm.length_packTo ((n + 7) / 8) l k
        have hx := hown.cellAt (k / 8) (by omega)
        rw [u8s_get _ _ (by omega)] at hx
        have hx8 : (Bm.packTo ((n + 7) / 8) l k).getD (k / 8) 0 < 256 := Bm.getD_packTo_lt _ _ _ _
        have hfz := hown.frozenAt (k / 8)
        have hs : Bm.packTo ((n + 7) / 8) l (k + 1) = (Bm.packTo ((n + 7) / 8) l k).set (k / 8) ((Bm.packTo ((n + 7) / 8) l k).getD (k / 8) 0 ||| 2 ^ (k % 8)) := by rw [Bm.packTo, hbit]; simp [Bm.orAt]
        have hst := hown.stored (k / 8) (.int .u8 (((Bm.packTo ((n + 7) / 8) l k).getD (k / 8) 0 ||| 2 ^ (k % 8) : Nat) : Int))
        rw [u8s_set, ← hs] at hst
        clear hs hL hbit hown
        generalize (Bm.packTo ((n + 7) / 8) l k).getD (k / 8) 0 = x at hx hx8 hst
        have hor := Bm.or_walk x (k % 8) hx8 (by omega)
        have HST := Lib.hid hst
        have HOR := Lib.hid hor
        clear hst hor
        have h1 : (0 : Int) ≤ (k : Int) / 8 := by omega
        have h2 : (k : Int) / 8 < (((n + 7) / 8 : Nat) : Int) := by omega
        go_wp2
        go_roundw
        case rel =>
          rw [HOR.out]
          exact ⟨k + 1, by omega, by go_num, HST.out.1, hbel.setCell (Nat.le_refl _) _⟩
        case measure => simp [intOf]; omega
    · obtain rfl : k = n := by omega
      have hcv := run_string_own (P := Try.prog) wr w.heap.size 34 9 5 Try.underlying34 Try.underlying5 Try.underlying9 _ _ _ _ hown
      clear hc
      go_wp2
      go_ret
      exact ⟨rfl, hbel⟩

end Go.Proofs.Ytkhnljblfbdkkaa
