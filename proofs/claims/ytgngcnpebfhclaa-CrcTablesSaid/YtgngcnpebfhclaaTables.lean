/- The walk of the law CrcTables: for every table, string and numbers, crc and its reference agree. -/
import Derived.Test.YtgngcnpebfhclaaJoin
namespace Go.Proofs.Ytgngcnpebfhclaa
open Go.RowKit

/-- The table after k of its elements have been combined with a number. -/
def mix (f k : Nat) : List Nat := (Cs.table.take k).map (fun x => x ^^^ f) ++ Cs.table.drop k

theorem length_mix (f k : Nat) : (mix f k).length = 256 := by
  have := length_table
  simp [mix]; omega

theorem mix_get (f k : Nat) (h : k < 256) : (mix f k).getD k 0 = Cs.table.getD k 0 := by
  have hl := length_table
  rw [List.getD_eq_getElem?_getD, List.getD_eq_getElem?_getD]
  unfold mix
  rw [List.getElem?_append_right (by simp; omega), List.getElem?_drop]
  congr 2
  simp
  omega

theorem mix_set (f k : Nat) (h : k < 256) : (mix f k).set k (Cs.table.getD k 0 ^^^ f) = mix f (k + 1) := by
  have hl := length_table
  have hk : k < Cs.table.length := by omega
  unfold mix
  have hlen : ((Cs.table.take k).map (fun x => x ^^^ f)).length = k := by simp; omega
  rw [List.set_append_right _ _ (by omega), hlen, Nat.sub_self, List.drop_eq_getElem_cons hk, List.set_cons_zero, List.take_succ_eq_append_getElem hk, List.map_append, List.append_assoc,
    List.getD_eq_getElem?_getD, List.getElem?_eq_getElem hk]
  rfl

theorem mix_all (f : Nat) (hf : f < 4294967296) : Cs.fits (mix f 256) := by
  intro x hx
  unfold mix at hx
  rw [List.drop_of_length_le (by rw [length_table]; omega), List.append_nil] at hx
  obtain ⟨y, hy, rfl⟩ := List.mem_map.1 hx
  exact Nat.xor_lt_two_pow (n := 32) (fits_table y (List.mem_of_mem_take hy)) hf

theorem table_lt (k : Nat) : Cs.table.getD k 0 < 4294967296 := Cs.getD_lt fits_table k

set_option maxRecDepth 20000 in
set_option maxHeartbeats 1000000 in
theorem tables_nat (a : Option Addr) (n cap : Nat) (l : List Nat) (s : ByteArray) (x y : Nat) (m : Int) (f : Nat) (w : World) (hin : NatsIn .u32 w a n l) (hf : Cs.fits l) (hs : s.size ≤ 140737488351232)
    (hx : x < 4294967296) (hy : y < 4294967296) (hfl : f < 4294967296) :
    Calls Try.prog 4 #[.slice a n cap, .string s, .int .u32 (x : Int), .int .u32 (y : Int), .int .i64 m, .int .u32 (f : Int)] w fun e w' => e = .returned (.bool true) ∧ Below w.heap.size w w' := by
  have HIN := Lib.hid hin
  have HF := Lib.hid hf
  have HX := Lib.hid hx
  have HY := Lib.hid hy
  have HFL := Lib.hid hfl
  have HS := Lib.hid hs
  clear hin hf hx hy hfl hs
  go_enter Try.func4, Try.ntmps4
  go_wp2_with fail
  refine (pick_any m 300 _ (by omega) (by omega)).mono ?_
  have hpk := pick_bd m 300 (by omega)
  rintro e w1 ⟨rfl, rfl⟩
  generalize pick m 300 = p at hpk
  go_wp2_with fail
  refine (refTable_any _).mono ?_
  rintro e w1 ⟨v, rfl, hown, hb1⟩
  obtain ⟨g, cap', rfl, hgb, hgl, _, _⟩ := owned hown (by omega) (by omega)
  have hown0 : w1.ownsRow w.heap.size 23 1 (.slice (some ⟨g, 0, none⟩) 256 cap') 256 (u32s (mix f 0)) := hown
  clear hown
  go_wp2_with fail
  go_loopw [21] (fun i wr => ∃ k : Nat, k ≤ 256 ∧ i = .int .i64 k ∧ wr.ownsRow w.heap.size 23 1 (.slice (some ⟨g, 0, none⟩) 256 cap') 256 (u32s (mix f k)) ∧ Below w.heap.size w wr) (fun i _ => 256 - (intOf i).toNat)
  case atStart => exact ⟨0, Nat.zero_le _, rfl, hown0, hb1⟩
  case round =>
    obtain ⟨k, hk, rfl, hown, hbel⟩ := hrel
    by_cases hlt : k < 256
    · have hfz := hown.frozenAt k
      have hx := hown.cellAt k (by omega)
      rw [u32s_get _ _ (by rw [length_mix]; exact hlt), mix_get f k hlt] at hx
      have hst := hown.stored k (.int .u32 ((Cs.table.getD k 0 ^^^ f : Nat) : Int))
      rw [u32s_set, mix_set f k hlt] at hst
      have hxo := Cs.walk_xor _ f (table_lt k) HFL.out
      rw [← hxo] at hst
      have HST := Lib.hid hst
      clear hst hxo hown hown0
      generalize Cs.table.getD k 0 = u at hx HST
      have h1 : (0 : Int) ≤ (k : Int) := by omega
      have h2 : (k : Int) < 256 := by omega
      go_wp2_with fail
      go_roundw
      case rel => exact ⟨k + 1, by omega, by go_num, HST.out.1, hbel.setCell hgb _⟩
      case measure => simp [intOf]; omega
    · obtain rfl : k = 256 := by omega
      obtain ⟨_, _, hcat, _, _, _, hinu⟩ := owned hown (by omega) (by omega)
      simp only [Value.slice.injEq, Option.some.injEq, Addr.mk.injEq, and_true, true_and] at hcat
      obtain ⟨rfl, rfl⟩ := hcat
      have HINU := Lib.hid hinu
      clear hinu hown hown0
      have hfu := Lib.hid (mix_all f HFL.out)
      generalize mix f 256 = lu at HINU hfu
      go_wp2_with fail
      refine (awake_any _).mono ?_
      rintro e w2 ⟨rfl, hb2⟩
      have hb3 := hbel.trans (hb2.mono hbel.size)
      have HINU2 := Lib.hid (HINU.out.later hb2)
      have HIN2 := Lib.hid (HIN.out.later hb3)
      clear HINU HIN hb2 hbel hb1
      go_wp2_with fail
      refine (sum_any _ _ _ _ _ _ HIN2.out HF.out HS.out).mono ?_
      rintro e w3 ⟨rfl, rfl⟩
      go_wp2_with fail
      refine (refSum_any _ _ _ _ _ _ HIN2.out HF.out HS.out).mono ?_
      rintro e w3 ⟨rfl, rfl⟩
      go_wp2_with fail
      refine (sum_any _ _ _ _ _ _ HINU2.out hfu.out HS.out).mono ?_
      rintro e w3 ⟨rfl, rfl⟩
      go_wp2_with fail
      refine (refSum_any _ _ _ _ _ _ HINU2.out hfu.out HS.out).mono ?_
      rintro e w3 ⟨rfl, rfl⟩
      go_wp2_with fail
      refine (join_any _ _ _ _ _ _ _ _ HIN2.out HF.out HX.out HY.out).mono ?_
      rintro e w3 ⟨rfl, rfl⟩
      go_wp2_with fail
      refine (refJoin_any _ _ _ _ _ _ _ _ HIN2.out HF.out HX.out HY.out).mono ?_
      rintro e w3 ⟨rfl, rfl⟩
      go_wp2_with fail
      refine (join_any _ _ _ _ _ _ _ _ HINU2.out hfu.out HX.out HY.out).mono ?_
      rintro e w3 ⟨rfl, rfl⟩
      go_wp2_with fail
      refine (refJoin_any _ _ _ _ _ _ _ _ HINU2.out hfu.out HX.out HY.out).mono ?_
      rintro e w3 ⟨rfl, rfl⟩
      go_wp2_with fail
      go_ret
      exact ⟨rfl, hb3⟩

theorem nat_of_wf (x : Int) (h : (Lit.int .u32 x).wf = true) : ∃ n : Nat, x = (n : Int) ∧ n < 4294967296 := by
  have hmin : IntKind.u32.min = 0 := rfl
  have hmax : IntKind.u32.max = 4294967295 := rfl
  simp only [Lit.wf, Bool.and_eq_true, decide_eq_true_eq] at h
  exact ⟨x.toNat, by omega, by omega⟩

theorem law_tables (a : Option Addr) (n cap : Nat) (l : List Nat) (s : ByteArray) (x y m f : Int) (w : World) (hin : NatsIn .u32 w a n l) (hf : ∀ x ∈ l, x < 4294967296) (hs : s.size ≤ 140737488351232)
    (hx : (Lit.int .u32 x).wf = true) (hy : (Lit.int .u32 y).wf = true) (_ : (Lit.int .i64 m).wf = true) (hfl : (Lit.int .u32 f).wf = true) :
    Calls Try.prog 4 #[.slice a n cap, .string s, .int .u32 x, .int .u32 y, .int .i64 m, .int .u32 f] w fun e w' => e = .returned (.bool true) ∧ Below w.heap.size w w' := by
  obtain ⟨x, rfl, hx'⟩ := nat_of_wf x hx
  obtain ⟨y, rfl, hy'⟩ := nat_of_wf y hy
  obtain ⟨f, rfl, hfl'⟩ := nat_of_wf f hfl
  exact tables_nat a n cap l s x y m f w hin hf hs hx' hy' hfl'
end Go.Proofs.Ytgngcnpebfhclaa
