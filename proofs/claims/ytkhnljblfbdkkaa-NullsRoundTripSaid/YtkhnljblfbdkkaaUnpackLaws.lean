/- The walks of the laws NullsUnpacks and NullsRoundTrip. -/
import Derived.Test.YtkhnljblfbdkkaaUnpackB
namespace Go.Proofs.Ytkhnljblfbdkkaa
open Go.RowKit

set_option maxRecDepth 20000 in
set_option maxHeartbeats 2000000 in
theorem law_unpacks (s : ByteArray) (n : Int) (w : World) (hs : s.size ≤ 140737488351232) (_ : (Lit.int .i64 n).wf = true) : Calls Try.prog 4 #[.string s, .int .i64 n] w fun e w' => e = .returned (.bool true) ∧ Below w.heap.size w w' := by
  go_enter Try.func4, Try.ntmps4
  go_wp2_with fail
  refine (pick_any _ _ _ (by omega) (by omega)).mono ?_
  rintro e w1 ⟨rfl, rfl⟩
  have hp := pick_bd n (8 * (s.size : Int) + 12) (by omega)
  generalize pick n (8 * (s.size : Int) + 12) = p at hp
  go_wp2_with fail
  refine (unpack_any s _ _ hs).mono ?_
  rintro e w1 ⟨a, k, ca, rfl, hin1, hb1⟩
  have HI1 := Lib.hid hin1
  clear hin1
  go_wp2_with fail
  refine (refUnpack_any s _ _ hs).mono ?_
  rintro e w2 ⟨b, k2, cb, rfl, hin2, hb2⟩
  obtain rfl : k2 = k := by rw [← hin2.len, HI1.out.len]
  have HI2 := Lib.hid hin2
  have HI1' := Lib.hid (HI1.out.later hb2)
  have hb12 := hb1.trans (hb2.mono hb1.size)
  clear hin2 hb1 hb2 HI1
  go_wp2_with fail
  refine (unpack_any s _ _ hs).mono ?_
  rintro e w3 ⟨a3, k3, c3, rfl, _, hb3⟩
  have HI2' := Lib.hid (HI2.out.later hb3)
  have HI1 := Lib.hid (HI1'.out.later hb3)
  have hb123 := hb12.trans (hb3.mono hb12.size)
  clear hb12 hb3 HI2 HI1'
  go_wp2_with fail
  refine (refUnpack_any s _ _ hs).mono ?_
  rintro e w4 ⟨a4, k4, c4, rfl, _, hb4⟩
  have HI2 := Lib.hid (HI2'.out.later hb4)
  have HI1' := Lib.hid (HI1.out.later hb4)
  have hb := hb123.trans (hb4.mono hb123.size)
  clear hb123 hb4 HI2' HI1
  go_wp2_with fail
  refine (awake_any _).mono ?_
  rintro e w5 ⟨rfl, hb5⟩
  have HI2' := Lib.hid (HI2.out.later hb5)
  have HI1 := Lib.hid (HI1'.out.later hb5)
  have hbb := hb.trans (hb5.mono hb.size)
  clear hb hb5 HI2 HI1'
  go_wp2_with fail
  refine (same_any _ _ _ _ _ _ _ HI1.out HI2'.out).mono ?_
  rintro e w6 ⟨rfl, hb6⟩
  have hb := hbb.trans (hb6.mono hbb.size)
  clear hbb hb6
  go_wp2_with fail
  go_ret
  exact ⟨rfl, hb⟩

/-- The first elements of a slice. -/
theorem BoolsIn.first {w : World} {a : Option Addr} {n m : Nat} {l : List Bool} (h : BoolsIn w a n l) (hm : m ≤ n) : BoolsIn w a m (l.take m) :=
  ⟨by rw [List.length_take, h.len]; omega, by have := h.reach; omega, fun t ht => by
    obtain ⟨b, off, e, hlt, hc⟩ := h.cells t (by omega)
    refine ⟨b, off, e, hlt, ?_⟩
    rw [hc, List.getD_eq_getElem?_getD, List.getD_eq_getElem?_getD, List.getElem?_take, if_pos ht]⟩

theorem round_err (l : List Bool) (h : l.length ≤ 4096) : Bm.err (strOf (Bm.pack l)) (l.length : Int) = 0 := by
  unfold Bm.err
  rw [if_neg (by omega), Int.toNat_natCast, Bm.size_pack, if_neg (by omega), if_neg (by omega), Bm.bytes_pack, if_pos]
  rw [Bm.rest_iff]
  intro i h1 _
  rw [Bm.bit_pack, decide_eq_false (by omega)]; rfl

theorem round_elems (l : List Bool) (h : l.length ≤ 4096) : Bm.elems (strOf (Bm.pack l)) (l.length : Int) = l := by
  rw [Bm.elems_ok (round_err l h), Int.toNat_natCast, Bm.bytes_pack]
  apply List.ext_getElem?
  intro i
  by_cases hi : i < l.length
  · rw [List.getElem?_map, List.getElem?_range hi, List.getElem?_eq_getElem hi]
    show some (Bm.bit (Bm.pack l) i) = _
    rw [Bm.bit_pack, decide_eq_true hi, Bool.true_and, List.getD_eq_getElem?_getD, List.getElem?_eq_getElem hi]; rfl
  · rw [List.getElem?_eq_none (by simp; omega), List.getElem?_eq_none (by omega)]

set_option maxRecDepth 20000 in
set_option maxHeartbeats 2000000 in
theorem law_round (a : Option Addr) (n cap : Nat) (l : List Bool) (w : World) (hin : BoolsIn w a n l) (hc : n ≤ cap ∧ cap ≤ 140737488351232 ∧ (a = none → cap = 0)) :
    Calls Try.prog 5 #[.slice a n cap] w fun e w' => e = .returned (.bool true) ∧ Below w.heap.size w w' := by
  obtain ⟨hc1, hc2, hc3⟩ := hc
  have HC3 := Lib.hid hc3
  clear hc3
  obtain ⟨m, hm⟩ : ∃ m, m = min n 4096 := ⟨_, rfl⟩
  have hmn : m ≤ n := by omega
  have hm4 : m ≤ 4096 := by omega
  have HI := Lib.hid (hin.first hmn)
  have hl : (l.take m).length = m := by rw [List.length_take, hin.len]; omega
  have HL := Lib.hid hl
  have HE := Lib.hid (round_elems (l.take m) (by omega))
  have HR := Lib.hid (round_err (l.take m) (by omega))
  have HZ := Lib.hid (Bm.size_pack (l.take m))
  rw [hl] at HE HR HZ
  have HS : Hid ((strOf (Bm.pack (l.take m))).size ≤ 140737488351232) := by show _ ≤ _; rw [HZ.out]; omega
  generalize l.take m = lm at HI HL HE HR HZ HS hl
  clear hin hl
  rcases (show (n ≤ 4096 ∧ m = n) ∨ (4096 < n ∧ m = 4096) from by omega) with ⟨h, rfl⟩ | ⟨h, rfl⟩
  · clear hm
    have h' : (m : Int) ≤ 4096 := by omega
    have hcI : (m : Int) ≤ (cap : Int) := by omega
    go_enter Try.func5, Try.ntmps5
    go_wp2_with fail
    refine (pack_any _ _ _ lm _ HI.out).mono ?_
    rintro e w1 ⟨rfl, hb1⟩
    have HI1 := Lib.hid (HI.out.later hb1)
    generalize strOf (Bm.pack lm) = s at HE HR HS ⊢
    go_wp2_with fail
    refine (unpack_any s _ _ HS.out).mono ?_
    rintro e w2 ⟨b, k, cb, he, hin2, hb2⟩
    subst he
    rw [HR.out]
    rw [HE.out] at hin2
    obtain rfl : k = m := by rw [← hin2.len, HL.out]
    have HI2 := Lib.hid hin2
    have HI1' := Lib.hid (HI1.out.later hb2)
    have hb := hb1.trans (hb2.mono hb1.size)
    clear hin2 hb1 hb2 HI1 HI
    go_wp2_with fail
    refine (awake_any _).mono ?_
    rintro e w3 ⟨rfl, hb3⟩
    have HI2' := Lib.hid (HI2.out.later hb3)
    have HI1 := Lib.hid (HI1'.out.later hb3)
    have hbb := hb.trans (hb3.mono hb.size)
    clear hb hb3 HI2 HI1'
    go_wp2_with fail
    refine (same_any _ _ _ _ _ _ _ HI2'.out HI1.out).mono ?_
    rintro e w4 ⟨rfl, hb4⟩
    have hb := hbb.trans (hb4.mono hbb.size)
    clear hbb hb4
    go_wp2_with fail
    go_ret
    exact ⟨rfl, hb⟩
  · clear hm
    have h' : ¬ (n : Int) ≤ 4096 := by omega
    have hcI : (4096 : Int) ≤ (cap : Int) := by omega
    go_enter Try.func5, Try.ntmps5
    go_wp2_with fail
    refine (pack_any _ _ _ lm _ HI.out).mono ?_
    rintro e w1 ⟨rfl, hb1⟩
    have HI1 := Lib.hid (HI.out.later hb1)
    generalize strOf (Bm.pack lm) = s at HE HR HS ⊢
    go_wp2_with fail
    refine (unpack_any s _ _ HS.out).mono ?_
    rintro e w2 ⟨b, k, cb, he, hin2, hb2⟩
    subst he
    have er : Bm.err s 4096 = 0 := HR.out
    rw [er]
    have ee : Bm.elems s 4096 = lm := HE.out
    rw [ee] at hin2
    obtain rfl : k = 4096 := by rw [← hin2.len, HL.out]
    have HI2 := Lib.hid hin2
    have HI1' := Lib.hid (HI1.out.later hb2)
    have hb := hb1.trans (hb2.mono hb1.size)
    clear hin2 hb1 hb2 HI1 HI
    go_wp2_with fail
    refine (awake_any _).mono ?_
    rintro e w3 ⟨rfl, hb3⟩
    have HI2' := Lib.hid (HI2.out.later hb3)
    have HI1 := Lib.hid (HI1'.out.later hb3)
    have hbb := hb.trans (hb3.mono hb.size)
    clear hb hb3 HI2 HI1'
    go_wp2_with fail
    refine (same_any _ _ _ _ _ _ _ HI2'.out HI1.out).mono ?_
    rintro e w4 ⟨rfl, hb4⟩
    have hb := hbb.trans (hb4.mono hbb.size)
    clear hbb hb4
    go_wp2_with fail
    go_ret
    exact ⟨rfl, hb⟩
end Go.Proofs.Ytkhnljblfbdkkaa
