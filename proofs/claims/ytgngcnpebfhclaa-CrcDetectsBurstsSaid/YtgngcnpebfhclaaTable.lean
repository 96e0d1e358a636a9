/- The contracts of crc.Table and of its reference: a row of the call's own that holds the table. -/
import Derived.Test.YtgngcnpebfhclaaSum
namespace Go.Proofs.Ytgngcnpebfhclaa
open Go.RowKit

theorem info23 : (Try.prog.info? 23).map (fun i => (i.zero, i.size, i.bytes)) = some (some (.int .u32 0), 1, 4) := by kernel_rfl

/-- The cells of a row of numbers. -/
def u32s (ns : List Nat) : List Value := ns.map fun x : Nat => Value.int .u32 (x : Int)

theorem u32s_get (ns : List Nat) (j : Nat) (h : j < ns.length) : (u32s ns)[j]? = some (.int .u32 ((ns.getD j 0 : Nat) : Int)) := by
  simp [u32s, List.getD_eq_getElem?_getD, List.getElem?_eq_getElem h]
theorem u32s_set (ns : List Nat) (j x : Nat) : (u32s ns).set j (.int .u32 (x : Int)) = u32s (ns.set j x) := by
  simp [u32s, List.map_set]
theorem u32s_append (a b : List Nat) : u32s a ++ u32s b = u32s (a ++ b) := by simp [u32s]

set_option maxRecDepth 20000 in
set_option maxHeartbeats 1000000 in
theorem refTable_any (w : World) :
    Calls Try.prog 11 #[] w fun e w' => ∃ v, e = .returned v ∧ w'.ownsRow w.heap.size 23 1 v 256 (u32s Cs.table) ∧ Below w.heap.size w w' := by
  obtain ⟨i0, hi, hz0, hz1, hz2⟩ := info_parts info23
  go_enter Try.func11, Try.ntmps11
  go_wp2_with fail
  go_loopw [1, 2] (fun v i wr => ∃ n : Nat, n ≤ 256 ∧ i = .int .u32 n ∧ wr.ownsRow w.heap.size 23 1 v n (u32s (Cs.tab n)) ∧ Below w.heap.size w wr) (fun _ i _ => 256 - (intOf i).toNat)
  case atStart => exact ⟨0, Nat.zero_le _, rfl, World.ownsRow_nil _ _ _ _, Below.refl _ _⟩
  case round =>
    obtain ⟨n, hn, rfl, hown, hbel⟩ := hrel
    by_cases hlt : n < 256
    · have hd : decide ((n : Int) < 256) = true := by simp; omega
      go_wp2_with fail
      go_loop [3, 4] (fun v k => ∃ j : Nat, j ≤ 8 ∧ k = .int .i64 j ∧ v = .int .u32 ((Cs.hal j n : Nat) : Int)) (fun _ k => 8 - (intOf k).toNat)
      case atStart => exact ⟨0, Nat.zero_le _, rfl, rfl⟩
      case round =>
        obtain ⟨j, hj, rfl, rfl⟩ := hrel
        by_cases hj8 : j < 8
        · have hv := Cs.hal_lt j n (by omega)
          have HH : Hid (Cs.hal (j + 1) n = Cs.half (Cs.hal j n)) := by exact rfl
          generalize Cs.hal j n = v at hv HH
          rcases Nat.mod_two_eq_zero_or_one v with h0 | h1
          · have ha := (Cs.walk_even v hv h0).1
            have hb := (Cs.walk_even v hv h0).2.2
            clear hv h0
            go_wp2_with fail
            go_round
            case rel => exact ⟨j + 1, by omega, by go_num, by rw [HH.out]⟩
            case measure => simp [intOf]; omega
          · obtain ⟨ha, hb⟩ := Cs.walk_odd v hv h1
            clear hv h1
            go_wp2_with fail
            go_round
            case rel => exact ⟨j + 1, by omega, by go_num, by rw [HH.out]⟩
            case measure => simp [intOf]; omega
        · obtain rfl : j = 8 := by omega
          have HT := Lib.hid (Cs.tab_snoc n)
          generalize Cs.hal 8 n = x at HT
          go_wp2_with (at_builtin; refine wpList_append_own _ rfl _ _ 25 rfl w.heap.size 23 i0 (.int .u32 0) 1 4 Try.underlying25 hi hz0 hz1 hz2 rfl (by decide) _ _ _ rfl (hown.alloc _) ⟨wr.heap.size, 0, none⟩ 1 1 [.int .u32 (x : Int)] rfl rfl ?c1 ?c2 ?c3 ?c4 ?c5 ?_)
          case c2 => rfl
          case c3 => unfold maxLen; omega
          case c4 => omega
          case c5 => have := hbel.size; omega
          intro v' w1 hown' hgrow _
          have hown2 : w1.ownsRow w.heap.size 23 1 v' (n + 1) (u32s (Cs.tab (n + 1))) := by rw [HT.out, ← u32s_append]; exact hown'
          have hbel2 : Below w.heap.size w w1 := (hbel.alloc hbel.size _).grown hgrow (by have := hbel.size; simp; omega) (fun k hk => (hown.lt k hk).1)
          clear hown' hgrow hown hbel
          go_wp2_with fail
          go_roundw
          case rel => exact ⟨n + 1, by omega, by go_num, hown2, hbel2⟩
          case measure => simp [intOf]; omega
    · obtain rfl : n = 256 := by omega
      go_wp2_with fail
      go_ret
      exact ⟨_, rfl, hown, hbel⟩

theorem tab_fill (n : Nat) (hn : n < 256) : (Cs.tab n ++ List.replicate (256 - n) 0).set n (Cs.hal 8 n) = Cs.tab (n + 1) ++ List.replicate (256 - (n + 1)) 0 := by
  have hl := Cs.length_tab n
  rw [Cs.tab_snoc, List.set_append_right _ _ (by omega), hl, Nat.sub_self, show 256 - n = (256 - (n + 1)) + 1 from by omega, List.replicate_succ]
  simp

set_option maxRecDepth 20000 in
set_option maxHeartbeats 1000000 in
theorem table_any (w : World) :
    Calls Try.prog 19 #[] w fun e w' => ∃ v, e = .returned v ∧ w'.ownsRow w.heap.size 23 1 v 256 (u32s Cs.table) ∧ Below w.heap.size w w' := by
  obtain ⟨i0, hi, hz0, hz1, hz2⟩ := info_parts info23
  go_enter Try.func19, Try.ntmps19
  go_wp2_with (at_make; refine wpList_make_full _ rfl _ _ 25 rfl w.heap.size 23 i0 (.int .u32 0) 1 Try.underlying25 hi hz0 hz1 _ _ _ _ 256 rfl rfl (by omega) (by omega) ?b2 ?b3 (Nat.le_refl _) ?_)
  case b2 => rw [hz2]; omega
  case b3 => unfold maxLen; omega
  intro w0 hown0 hgrow0
  have hown1 : w0.ownsRow w.heap.size 23 1 (.slice (some ⟨w.heap.size, 0, none⟩) 256 256) 256 (u32s (Cs.tab 0 ++ List.replicate 256 0)) := by
    have e : (madeCells (Value.int .u32 0).cells (256 * 1)).toList = u32s (Cs.tab 0 ++ List.replicate 256 0) := by
      show (madeCells #[Value.int .u32 0] 256).toList = _
      rw [toList_madeCells_one]
      rfl
    rw [← e]; exact hown0
  have hbel0 : Below w.heap.size w w0 := (Below.refl _ _).grown hgrow0 (Nat.le_refl _) (fun k h => by cases h)
  clear hown0 hgrow0
  go_wp2_with fail
  go_loopw [7] (fun i wr => ∃ n : Nat, n ≤ 256 ∧ i = .int .i64 n ∧ wr.ownsRow w.heap.size 23 1 (.slice (some ⟨w.heap.size, 0, none⟩) 256 256) 256 (u32s (Cs.tab n ++ List.replicate (256 - n) 0)) ∧ Below w.heap.size w wr) (fun i _ => 256 - (intOf i).toNat)
  case atStart => exact ⟨0, Nat.zero_le _, rfl, hown1, hbel0⟩
  case round =>
    obtain ⟨n, hn, rfl, hown, hbel⟩ := hrel
    by_cases hlt : n < 256
    · have hd : decide ((n : Int) < 256) = true := by simp; omega
      go_wp2_with fail
      go_loop [3, 12] (fun v k => ∃ j : Nat, j ≤ 8 ∧ k = .int .i64 j ∧ v = .int .u32 ((Cs.hal j n : Nat) : Int)) (fun _ k => 8 - (intOf k).toNat)
      case atStart => exact ⟨0, Nat.zero_le _, rfl, rfl⟩
      case round =>
        obtain ⟨j, hj, rfl, rfl⟩ := hrel
        by_cases hj8 : j < 8
        · have hv := Cs.hal_lt j n (by omega)
          have HH : Hid (Cs.hal (j + 1) n = Cs.half (Cs.hal j n)) := by exact rfl
          generalize Cs.hal j n = v at hv HH
          rcases Nat.mod_two_eq_zero_or_one v with h0 | h1
          · have ha := (Cs.walk_even v hv h0).1
            have hb := (Cs.walk_even v hv h0).2.1
            clear hv h0
            go_wp2_with fail
            go_round
            case rel => exact ⟨j + 1, by omega, by go_num, by rw [HH.out]⟩
            case measure => simp [intOf]; omega
          · obtain ⟨ha, hb⟩ := Cs.walk_odd v hv h1
            clear hv h1
            go_wp2_with fail
            go_round
            case rel => exact ⟨j + 1, by omega, by go_num, by rw [HH.out]⟩
            case measure => simp [intOf]; omega
        · obtain rfl : j = 8 := by omega
          have hfz := hown.frozenAt n
          have hx := hown.cellAt n (by omega)
          rw [u32s_get _ _ (by simp [Cs.length_tab]; omega)] at hx
          have hst := hown.stored n (.int .u32 ((Cs.hal 8 n : Nat) : Int))
          rw [u32s_set, tab_fill n hlt] at hst
          have HST := Lib.hid hst
          generalize (Cs.tab n ++ List.replicate (256 - n) 0).getD n 0 = y at hx
          generalize Cs.hal 8 n = x at HST
          clear hst hown
          have h1 : (0 : Int) ≤ (n : Int) := by omega
          have h2 : (n : Int) < 256 := by omega
          go_wp2_with fail
          go_roundw
          case rel => exact ⟨n + 1, by omega, by go_num, HST.out.1, hbel.setCell (Nat.le_refl _) _⟩
          case measure => simp [intOf]; omega
    · obtain rfl : n = 256 := by omega
      go_wp2_with fail
      go_ret
      exact ⟨_, rfl, by simpa [Cs.table] using hown, hbel⟩
end Go.Proofs.Ytgngcnpebfhclaa
