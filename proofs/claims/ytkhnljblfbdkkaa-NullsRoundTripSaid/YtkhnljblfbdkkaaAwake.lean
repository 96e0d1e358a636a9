/- 'awake' answers true. -/
import Derived.Test.YtkhnljblfbdkkaaPack
namespace Go.Proofs.Ytkhnljblfbdkkaa
open Go.RowKit

theorem pack_three : strOf (Bm.pack [true, false, true]) = ⟨#[5]⟩ := by rfl

theorem boolsIn_three (w : World) : BoolsIn (w.alloc (.cells #[.bool true, .bool false, .bool true] 4)) (some ⟨w.heap.size, 0, none⟩) 3 [true, false, true] := by
  refine ⟨rfl, by omega, fun t ht => ⟨_, _, rfl, by simp, ?_⟩⟩
  match t, ht with
  | 0, _ => simp
  | 1, _ => simp
  | 2, _ => simp

set_option maxHeartbeats 400000 in
theorem awake_any (w : World) : Calls Try.prog 10 #[] w fun e w' => e = .returned (.bool true) ∧ Below w.heap.size w w' := by
  go_enter Try.func10, Try.ntmps10
  go_wp2_with fail
  refine (pack_any _ _ _ [true, false, true] _ (boolsIn_three w)).mono ?_
  rw [pack_three]
  rintro e w1 ⟨rfl, hb⟩
  go_wp2_with fail
  go_ret
  refine ⟨rfl, ((Below.refl _ _).alloc (Nat.le_refl _) _).trans (hb.mono (by simp))⟩

/-- The argument is still there in a later world. -/
theorem BoolsIn.later {w w' : World} {a : Option Addr} {n : Nat} {l : List Bool} (h : BoolsIn w a n l) (hb : Below w.heap.size w w') : BoolsIn w' a n l :=
  ⟨h.len, h.reach, fun t ht => let ⟨b, off, e, hlt, hc⟩ := h.cells t ht; ⟨b, off, e, by have := hb.size; omega, (hb.cell (by exact hlt)).trans hc⟩⟩

set_option maxHeartbeats 400000 in
theorem law_packs (a : Option Addr) (n cap : Nat) (l : List Bool) (w : World) (hin : BoolsIn w a n l) :
    Calls Try.prog 3 #[.slice a n cap] w fun e w' => e = .returned (.bool true) ∧ Below w.heap.size w w' := by
  have HIN := Lib.hid hin
  clear hin
  go_enter Try.func3, Try.ntmps3
  go_wp2_with fail
  refine (awake_any _).mono ?_
  rintro e w1 ⟨rfl, hb1⟩
  go_wp2_with fail
  refine (pack_any _ _ _ l _ (HIN.out.later hb1)).mono ?_
  rintro e w2 ⟨rfl, hb2⟩
  go_wp2_with fail
  have hb12 := hb1.trans (hb2.mono hb1.size)
  refine (packBits_any _ _ _ l _ (HIN.out.later hb12)).mono ?_
  rintro e w3 ⟨rfl, hb3⟩
  go_wp2_with fail
  go_ret
  refine ⟨rfl, hb12.trans (hb3.mono hb12.size)⟩
end Go.Proofs.Ytkhnljblfbdkkaa
