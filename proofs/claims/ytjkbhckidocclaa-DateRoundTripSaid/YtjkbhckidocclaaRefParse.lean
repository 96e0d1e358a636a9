/- The contract of the reference of Parse. -/
import Derived.Test.YtjkbhckidocclaaParse
import Derived.BigRegion
import Derived.ChangeAlike
namespace Go.Proofs.Ytjkbhckidocclaa
open Go.RowKit

theorem formed_iff (l : List Nat) (hl : l.length = 10) : formed l = true ↔ Tx.okTo l 10 := by
  constructor
  · intro h
    unfold formed at h
    rw [Bool.and_eq_true, Bool.and_eq_true, Bool.and_eq_true, decide_eq_true_iff] at h
    obtain ⟨⟨_, h4, h7⟩, ⟨d1, d2⟩, d3⟩ := h
    have at_ : ∀ a m j, Tx.digs ((l.drop a).take m) = true → j < m → a + m ≤ 10 → Tx.dig (l.getD (a + j) 0) = true := by
      intro a m j hd hj ha
      have hlen : j < ((l.drop a).take m).length := by rw [List.length_take, List.length_drop]; omega
      have := List.all_eq_true.1 hd _ (List.getElem_mem hlen)
      rw [List.getElem_take, List.getElem_drop] at this
      rw [List.getD_eq_getElem?_getD, List.getElem?_eq_getElem (by omega)]
      exact this
    intro j hj
    unfold Tx.good
    by_cases e : j = 4 ∨ j = 7
    · rw [if_pos e]
      rcases e with rfl | rfl
      · exact decide_eq_true h4
      · exact decide_eq_true h7
    · rw [if_neg e]
      by_cases a : j < 4
      · have := at_ 0 4 j (by simpa using d1) a (by omega)
        simpa using this
      · by_cases b : j < 7
        · have := at_ 5 2 (j - 5) d2 (by omega) (by omega)
          rwa [show 5 + (j - 5) = j from by omega] at this
        · have := at_ 8 2 (j - 8) (by rw [List.take_of_length_le (by rw [List.length_drop]; omega)]; exact d3) (by omega) (by omega)
          rwa [show 8 + (j - 8) = j from by omega] at this
  · intro h
    have d1 := Tx.digs_part (a := 0) (m := 4) hl h (by omega) (by omega) (by intro j _ _; omega)
    have d2 := Tx.digs_part (a := 5) (m := 2) hl h (by omega) (by omega) (by intro j _ _; omega)
    have d3 := Tx.digs_part (a := 8) (m := 2) hl h (by omega) (by omega) (by intro j _ _; omega)
    rw [List.take_of_length_le (by rw [List.length_drop]; omega)] at d3
    have h4 := h 4 (by omega)
    have h7 := h 7 (by omega)
    unfold Tx.good at h4 h7
    rw [if_pos (by omega), decide_eq_true_iff] at h4 h7
    unfold formed
    rw [List.drop_zero] at d1
    rw [d1, d2, d3, decide_eq_true ⟨hl, h4, h7⟩]
    rfl

theorem bad_at (l : List Nat) (hl : l.length = 10) (k : Nat) (hk : k < 10) (h : Tx.good l k = false) : formed l = false := by
  cases hf : formed l
  · rfl
  · have := (formed_iff l hl).1 hf k hk
    rw [h] at this
    cases this

theorem parse_ok (l : List Nat) (hl : l.length = 10) (h : Tx.okTo l 10) : parseOf l = daysOf (Tx.v0 l 10) (Tx.v1 l 10) (Tx.v2 l 10) := by
  have hf := (formed_iff l hl).2 h
  unfold parseOf
  rw [if_pos hf]
  have e : (l.drop 8).take (10 - 8) = l.drop 8 := List.take_of_length_le (by rw [List.length_drop]; omega)
  show daysOf _ _ _ = daysOf (Tx.val (l.take 4)) (Tx.val ((l.drop 5).take 2)) (Tx.val ((l.drop 8).take (10 - 8)))
  rw [e]

/-- The part that place k belongs to. -/
def partN (k : Nat) : Int := if k ≤ 4 then 0 else if k ≤ 7 then 1 else 2

set_option maxRecDepth 20000 in
set_option maxHeartbeats 4000000 in
theorem refParse_any (s : ByteArray) (w : World) (_ : s.size ≤ 140737488351232) :
    Calls Try.prog 22 #[.string s] w fun e w' => e = parseOf (Tx.bytes s) ∧ Below w.heap.size w w' := by
  have hL := Tx.length_bytes s
  by_cases h10 : s.size = 10
  · have hl : (Tx.bytes s).length = 10 := by omega
    have e10 : ((s.size : Int) != 10) = false := by rw [bne_eq_false_iff_eq]; omega
    have HL := Lib.hid hl
    have HZ := Lib.hid h10
    clear hL hl h10
    go_enter Try.func22, Try.ntmps22
    go_wp2_with fail
    go_loopw [5, 6] (fun p i wr => ∃ k : Nat, k ≤ 10 ∧ i = .int .i64 k ∧ p = .int .i64 (partN k) ∧ Tx.okTo (Tx.bytes s) k ∧
        wr.heap[w.heap.size]? = some (.cells #[.int .i64 (Tx.v0 (Tx.bytes s) k), .int .i64 (Tx.v1 (Tx.bytes s) k), .int .i64 (Tx.v2 (Tx.bytes s) k)] 42 (0, 0)) ∧ Below w.heap.size w wr)
      (fun _ i _ => 10 - (intOf i).toNat)
    case atStart => exact ⟨0, Nat.zero_le _, rfl, rfl, fun j hj => absurd hj (by omega), heap_alloc_new w _, (Below.refl _ _).alloc (Nat.le_refl _) _⟩
    case round =>
      obtain ⟨k, hk, rfl, rfl, hok, hblk, hbel⟩ := hrel
      have HB := Lib.hid hblk
      clear hblk
      by_cases hk10 : k < 10
      · have hks : k < s.size := by have := HZ.out; omega
        have HG := Lib.hid (Tx.bytes_get s k hks)
        have hks' : (k : Int) < (s.size : Int) := by omega
        by_cases k4 : k = 4
        · subst k4
          have hpart : partN 4 = 0 := rfl
          rw [hpart]
          have E0 := Lib.hid (Tx.v0_same (Tx.bytes s) 4 (by omega))
          have E1 := Lib.hid (Tx.v1_same (Tx.bytes s) 4 (by omega))
          have E2 := Lib.hid (Tx.v2_same (Tx.bytes s) 4 (by omega))
          by_cases h45 : s[4].toNat = 45
          · have HOK := Lib.hid (Tx.okTo_succ hok (by unfold Tx.good; rw [if_pos (by omega), HG.out]; exact decide_eq_true h45))
            have n45 : ((s[4].toNat : Int) != 45) = false := by rw [bne_eq_false_iff_eq]; omega
            clear h45 hok hpart
            go_wp2_with fail
            go_roundw
            case rel =>
              refine ⟨5, by omega, rfl, rfl, HOK.out, ?_, hbel⟩
              have := HB.out
              rw [E0.out, E1.out, E2.out]
              exact this
            case measure => simp [intOf]
          · have HF := Lib.hid (parse_bad (bad_at (Tx.bytes s) HL.out 4 (by omega) (by unfold Tx.good; rw [if_pos (by omega), HG.out]; exact decide_eq_false h45)))
            have n45 : ((s[4].toNat : Int) != 45) = true := by rw [bne_iff_ne]; omega
            clear h45 hok hpart
            go_wp2_with fail
            go_ret2
            exact ⟨by rw [HF.out]; rfl, hbel⟩
        · by_cases k7 : k = 7
          · subst k7
            have hpart : partN 7 = 1 := rfl
            rw [hpart]
            have E0 := Lib.hid (Tx.v0_same (Tx.bytes s) 7 (by omega))
            have E1 := Lib.hid (Tx.v1_same (Tx.bytes s) 7 (by omega))
            have E2 := Lib.hid (Tx.v2_same (Tx.bytes s) 7 (by omega))
            by_cases h45 : s[7].toNat = 45
            · have HOK := Lib.hid (Tx.okTo_succ hok (by unfold Tx.good; rw [if_pos (by omega), HG.out]; exact decide_eq_true h45))
              have n45 : ((s[7].toNat : Int) != 45) = false := by rw [bne_eq_false_iff_eq]; omega
              clear h45 hok hpart
              go_wp2_with fail
              go_roundw
              case rel =>
                refine ⟨8, by omega, rfl, rfl, HOK.out, ?_, hbel⟩
                have := HB.out
                rw [E0.out, E1.out, E2.out]
                exact this
              case measure => simp [intOf]
            · have HF := Lib.hid (parse_bad (bad_at (Tx.bytes s) HL.out 7 (by omega) (by unfold Tx.good; rw [if_pos (by omega), HG.out]; exact decide_eq_false h45)))
              have n45 : ((s[7].toNat : Int) != 45) = true := by rw [bne_iff_ne]; omega
              clear h45 hok hpart
              go_wp2_with fail
              go_ret2
              exact ⟨by rw [HF.out]; rfl, hbel⟩
          · have b4 : ((k : Int) == 4) = false := by rw [beq_eq_false_iff_ne]; omega
            have b7 : ((k : Int) == 7) = false := by rw [beq_eq_false_iff_ne]; omega
            by_cases hbad : Tx.dig (s[k].toNat) = true
            · by_cases k0 : k < 4
              · have hpart : partN k = 0 := by unfold partN; rw [if_pos (by omega)]
                have hpart' : partN (k + 1) = 0 := by unfold partN; rw [if_pos (by omega)]
                have HP := Lib.hid hpart'
                clear hpart'
                have E0 := Lib.hid (Tx.v0_step (Tx.bytes s) k HL.out k0)
                have E1 := Lib.hid (Tx.v1_same (Tx.bytes s) k (by omega))
                have E2 := Lib.hid (Tx.v2_same (Tx.bytes s) k (by omega))
                have hb := Tx.v0_bd (k := k) HL.out hok
                have hcell := cell_of_row wr w.heap.size 0 _ 42 (0, 0) HB.out
                have hfrz := frozen_of_row wr w.heap.size 0 _ 42 HB.out
                have HST := Lib.hid (heap_setCell_same wr w.heap.size 0 _ 42 (.int .i64 (10 * Tx.v0 (Tx.bytes s) k + ((s[k].toNat : Int) - 48))) HB.out)
                simp only [List.getElem?_toArray, List.getElem?_cons_zero] at hcell
                have hd := (Tx.dig_iff _).1 hbad
                have HOK := Lib.hid (Tx.okTo_succ hok (by unfold Tx.good; rw [if_neg (by omega), HG.out]; exact hbad))
                have c1' : (48 : Int) ≤ (s[k].toNat : Int) := by omega
                have c2' : (s[k].toNat : Int) ≤ 57 := by omega
                have HBL := Lib.hid hbel
                clear hbad hok hd hbel
                have q1 := HG.out
                rw [q1] at E0
                clear q1
                generalize Tx.v0 (Tx.bytes s) k = v at hb hcell HST E0 HB
                rw [hpart]
                clear hpart
                go_wp2_with fail
                go_region
                go_wp2_with fail
                go_roundw
                case rel =>
                  refine ⟨k + 1, by omega, by go_num, by rw [HP.out], HOK.out, ?_, HBL.out.setCell (Nat.le_refl _) _ |>.drew⟩
                  rw [E0.out, E1.out, E2.out]
                  exact HST.out
                case measure => simp [intOf]; omega
              · by_cases k1 : k < 7
                · have hpart : partN k = 1 := by unfold partN; rw [if_neg (by omega), if_pos (by omega)]
                  have hpart' : partN (k + 1) = 1 := by unfold partN; rw [if_neg (by omega), if_pos (by omega)]
                  have HP := Lib.hid hpart'
                  clear hpart'
                  have E0 := Lib.hid (Tx.v0_same (Tx.bytes s) k (by omega))
                  have E1 := Lib.hid (Tx.v1_step (Tx.bytes s) k HL.out (by omega) k1)
                  have E2 := Lib.hid (Tx.v2_same (Tx.bytes s) k (by omega))
                  have hb := Tx.v1_bd (k := k) HL.out hok
                  have hcell := cell_of_row wr w.heap.size 1 _ 42 (0, 0) HB.out
                  have hfrz := frozen_of_row wr w.heap.size 1 _ 42 HB.out
                  have HST := Lib.hid (heap_setCell_same wr w.heap.size 1 _ 42 (.int .i64 (10 * Tx.v1 (Tx.bytes s) k + ((s[k].toNat : Int) - 48))) HB.out)
                  simp only [List.getElem?_toArray, List.getElem?_cons_zero, List.getElem?_cons_succ] at hcell
                  have hd := (Tx.dig_iff _).1 hbad
                  have HOK := Lib.hid (Tx.okTo_succ hok (by unfold Tx.good; rw [if_neg (by omega), HG.out]; exact hbad))
                  have c1' : (48 : Int) ≤ (s[k].toNat : Int) := by omega
                  have c2' : (s[k].toNat : Int) ≤ 57 := by omega
                  have HBL := Lib.hid hbel
                  clear hbad hok hd hbel
                  have q1 := HG.out
                  rw [q1] at E1
                  clear q1
                  generalize Tx.v1 (Tx.bytes s) k = v at hb hcell HST E1 HB
                  rw [hpart]
                  clear hpart
                  go_wp2_with fail
                  go_region
                  go_wp2_with fail
                  go_roundw
                  case rel =>
                    refine ⟨k + 1, by omega, by go_num, by rw [HP.out], HOK.out, ?_, HBL.out.setCell (Nat.le_refl _) _ |>.drew⟩
                    rw [E0.out, E1.out, E2.out]
                    exact HST.out
                  case measure => simp [intOf]; omega
                · have hpart : partN k = 2 := by unfold partN; rw [if_neg (by omega), if_neg (by omega)]
                  have hpart' : partN (k + 1) = 2 := by unfold partN; rw [if_neg (by omega), if_neg (by omega)]
                  have HP := Lib.hid hpart'
                  clear hpart'
                  have E0 := Lib.hid (Tx.v0_same (Tx.bytes s) k (by omega))
                  have E1 := Lib.hid (Tx.v1_same (Tx.bytes s) k (by omega))
                  have E2 := Lib.hid (Tx.v2_step (Tx.bytes s) k HL.out (by omega) hk10)
                  have hb := Tx.v2_bd (k := k) HL.out (by omega) hok
                  have hcell := cell_of_row wr w.heap.size 2 _ 42 (0, 0) HB.out
                  have hfrz := frozen_of_row wr w.heap.size 2 _ 42 HB.out
                  have HST := Lib.hid (heap_setCell_same wr w.heap.size 2 _ 42 (.int .i64 (10 * Tx.v2 (Tx.bytes s) k + ((s[k].toNat : Int) - 48))) HB.out)
                  simp only [List.getElem?_toArray, List.getElem?_cons_zero, List.getElem?_cons_succ] at hcell
                  have hd := (Tx.dig_iff _).1 hbad
                  have HOK := Lib.hid (Tx.okTo_succ hok (by unfold Tx.good; rw [if_neg (by omega), HG.out]; exact hbad))
                  have c1' : (48 : Int) ≤ (s[k].toNat : Int) := by omega
                  have c2' : (s[k].toNat : Int) ≤ 57 := by omega
                  have HBL := Lib.hid hbel
                  clear hbad hok hd hbel
                  have q1 := HG.out
                  rw [q1] at E2
                  clear q1
                  generalize Tx.v2 (Tx.bytes s) k = v at hb hcell HST E2 HB
                  rw [hpart]
                  clear hpart
                  go_wp2_with fail
                  go_region
                  go_wp2_with fail
                  go_roundw
                  case rel =>
                    refine ⟨k + 1, by omega, by go_num, by rw [HP.out], HOK.out, ?_, HBL.out.setCell (Nat.le_refl _) _ |>.drew⟩
                    rw [E0.out, E1.out, E2.out]
                    exact HST.out
                  case measure => simp [intOf]; omega
            · have HF := Lib.hid (parse_bad (bad_at (Tx.bytes s) HL.out k hk10 (by unfold Tx.good; rw [if_neg (by omega), HG.out]; simpa using hbad)))
              have hor : s[k].toNat < 48 ∨ 57 < s[k].toNat := by
                rw [Tx.dig_iff] at hbad; omega
              clear hbad
              rcases hor with h | h
              · have c1' : (s[k].toNat : Int) < 48 := by omega
                clear h
                go_wp2_with fail
                go_ret2
                exact ⟨by rw [HF.out]; rfl, hbel⟩
              · have c1' : (57 : Int) < (s[k].toNat : Int) := by omega
                have c2' : ¬ (s[k].toNat : Int) < 48 := by omega
                clear h
                go_wp2_with fail
                go_ret2
                exact ⟨by rw [HF.out]; rfl, hbel⟩
      · obtain rfl : k = 10 := by omega
        have hp := parse_ok (Tx.bytes s) HL.out hok
        have c0 := cell_of_row wr w.heap.size 0 _ 42 (0, 0) HB.out
        have c1 := cell_of_row wr w.heap.size 1 _ 42 (0, 0) HB.out
        have c2 := cell_of_row wr w.heap.size 2 _ 42 (0, 0) HB.out
        simp only [List.getElem?_toArray, List.getElem?_cons_zero, List.getElem?_cons_succ] at c0 c1 c2
        clear hok HB
        generalize Tx.v0 (Tx.bytes s) 10 = x0 at c0 hp
        generalize Tx.v1 (Tx.bytes s) 10 = x1 at c1 hp
        generalize Tx.v2 (Tx.bytes s) 10 = x2 at c2 hp
        obtain ⟨n, c, hn⟩ := daysOf_two x0 x1 x2
        have HQ := Lib.hid (hp.trans hn)
        have HN := Lib.hid hn
        clear hp hn
        go_wp2_with fail
        refine (refDays_any _ _ _ _).mono ?_
        rw [HN.out]
        rintro e w1 ⟨rfl, rfl⟩
        go_wp2_with fail
        go_ret2
        exact ⟨by rw [HQ.out]; rfl, hbel⟩
  · have hf := parse_bad (l := Tx.bytes s) (by unfold formed; rw [hL]; simp [h10])
    have HF := Lib.hid hf
    have e10 : ((s.size : Int) != 10) = true := by rw [bne_iff_ne]; omega
    clear hf hL h10
    go_enter Try.func22, Try.ntmps22
    go_wp2_with fail
    go_ret2
    exact ⟨by rw [HF.out]; rfl, Below.refl _ _⟩
end Go.Proofs.Ytjkbhckidocclaa
