/- The walk of the law CrcDetectsBursts. -/
import Derived.Test.YtgngcnpebfhclaaJoin
import Derived.Test.YtgngcnpebfhclaaDetect
import Derived.BigRegion
import Derived.ChangeAlike
namespace Go.Proofs.Ytgngcnpebfhclaa
open Go.RowKit

/-- The cells of a row of bytes. -/
def u8s (ns : List Nat) : List Value := ns.map fun x : Nat => Value.int .u8 (x : Int)

/-- The string of these bytes. -/
def strOf (ns : List Nat) : ByteArray := ⟨(ns.map UInt8.ofNat).toArray⟩

theorem foldl_push (ns : List Int) : ∀ s : ByteArray, (ns.foldl (fun r n => r.push (UInt8.ofNat n.toNat)) s).data = s.data ++ (ns.map fun n => UInt8.ofNat n.toNat).toArray := by
  induction ns with
  | nil => intro s; simp
  | cons a ns ih => intro s; rw [List.foldl_cons, ih]; simp [ByteArray.push]

/-- 'string(b)', b a row of the call's own. -/
theorem run_string_own {P : Program} (w : World) (base src dst e : TypeId) (hs : P.underlying src = some (.slice e)) (he : P.underlying e = some (.int .u8)) (hd : P.underlying dst = some .string)
    (g n cap : Nat) (ns : List Nat) (hown : w.ownsRow base e 1 (.slice (some ⟨g, 0, none⟩) n cap) n (u8s ns)) :
    (convert src dst (.slice (some ⟨g, 0, none⟩) n cap)).run P w = .ok (.string (strOf ns)) w := by
  rw [run_convert_bytes_string w src dst e _ n cap hs he hd]
  have hlen : (u8s ns).length = n := by simpa using hown.1
  have hload : (loadCells ⟨g, 0, none⟩ n).run P w = .ok ((ns.map fun x : Nat => (x : Int)).map (Value.int .u8)).toArray w := by
    have h := run_loadCells_list (P := P) (w := w) ⟨g, 0, none⟩ (u8s ns) (fun j v hj => by
      have hjl := (List.getElem?_eq_some_iff.1 hj).1
      have := hown.cellAt j (by omega)
      rw [Addr.add_lit, Nat.zero_add, this]; exact hj)
    rw [hlen] at h
    rw [h]
    simp [u8s, List.map_map, Function.comp_def]
  rw [run_bytesToString w _ n cap _ hload]
  have e1 : (List.foldl (fun r n => r.push (UInt8.ofNat n.toNat)) ByteArray.empty (ns.map fun x : Nat => (x : Int))) = strOf ns := by
    have := foldl_push (ns.map fun x : Nat => (x : Int)) ByteArray.empty
    generalize List.foldl (fun (r : ByteArray) (n : Int) => r.push (UInt8.ofNat n.toNat)) ByteArray.empty (ns.map fun x : Nat => (x : Int)) = s at this ⊢
    cases s with
    | mk d => simp at this; subst this; simp [strOf, Function.comp_def]
  rw [e1]

theorem run_four {P : Program} (w : World) (src dst e : TypeId) (hs : P.underlying src = some (.slice e)) (he : P.underlying e = some (.int .u8)) (hd : P.underlying dst = some .string) (x0 x1 x2 x3 : Nat) :
    (convert src dst (.slice (some ⟨w.heap.size, 0, none⟩) 4 4)).run P (w.alloc (.cells #[.int .u8 (x0 : Int), .int .u8 (x1 : Int), .int .u8 (x2 : Int), .int .u8 (x3 : Int)] e)).drew
      = .ok (.string (strOf [x0, x1, x2, x3])) (w.alloc (.cells #[.int .u8 (x0 : Int), .int .u8 (x1 : Int), .int .u8 (x2 : Int), .int .u8 (x3 : Int)] e)).drew := by
  refine run_string_own (P := P) _ w.heap.size src dst e hs he hd w.heap.size 4 4 [x0, x1, x2, x3] ?_
  exact (World.ownsRow_lit w #[.int .u8 (x0 : Int), .int .u8 (x1 : Int), .int .u8 (x2 : Int), .int .u8 (x3 : Int)] 4 (Nat.le_refl _) (by decide) rfl).drew

theorem xor_byte (x y : Nat) (hx : x < 256) (hy : y < 256) : ∃ z : Nat, bits .xor .u8 (x : Int) (y : Int) = (z : Int) ∧ z = x ^^^ y ∧ z < 256 :=
  ⟨_, u8_xor_nat x y hx hy, rfl, Nat.xor_lt_two_pow (n := 8) hx hy⟩

theorem bytes_four (x0 x1 x2 x3 : Nat) (l0 : x0 < 256) (l1 : x1 < 256) (l2 : x2 < 256) (l3 : x3 < 256) : Cs.bytes (strOf [x0, x1, x2, x3]) = [x0, x1, x2, x3] := by
  have e : ∀ x, x < 256 → (UInt8.ofNat x).toNat = x := fun x hx => by rw [UInt8.toNat_ofNat']; omega
  show [(UInt8.ofNat x0).toNat, (UInt8.ofNat x1).toNat, (UInt8.ofNat x2).toNat, (UInt8.ofNat x3).toNat] = _
  rw [e x0 l0, e x1 l1, e x2 l2, e x3 l3]

theorem bytes_burst (s : ByteArray) (k x0 x1 x2 x3 : Nat) (l0 : x0 < 256) (l1 : x1 < 256) (l2 : x2 < 256) (l3 : x3 < 256) :
    Cs.bytes (s.extract 0 k ++ strOf [x0, x1, x2, x3] ++ s.extract (k + 4) s.size) = (Cs.bytes s).take k ++ [x0, x1, x2, x3] ++ (Cs.bytes s).drop (k + 4) := by
  rw [Cs.bytes_append, Cs.bytes_append, Cs.bytes_extract, Cs.bytes_extract, bytes_four x0 x1 x2 x3 l0 l1 l2 l3, List.drop_zero, Nat.sub_zero]
  rw [List.take_of_length_le (l := (Cs.bytes s).drop (k + 4)) (by rw [List.length_drop, Cs.length_bytes]; exact Nat.le_refl _)]

theorem size_burst (s : ByteArray) (k x0 x1 x2 x3 : Nat) (h : k + 4 ≤ s.size) : (s.extract 0 k ++ strOf [x0, x1, x2, x3] ++ s.extract (k + 4) s.size).size = s.size := by
  have e : (strOf [x0, x1, x2, x3]).size = 4 := rfl
  rw [ByteArray.size_append, ByteArray.size_append, ByteArray.size_extract, ByteArray.size_extract, e]
  omega

set_option maxRecDepth 20000 in
set_option maxHeartbeats 4000000 in
theorem bursts_nat (s : ByteArray) (at_ : Int) (a b c d : Nat) (w : World) (hs : s.size ≤ 140737488351232) (h4 : 4 ≤ s.size)
    (ha : a < 256) (hb : b < 256) (hc : c < 256) (hd : d < 256) :
    Calls Try.prog 8 #[.string s, .int .i64 at_, .int .u8 (a : Int), .int .u8 (b : Int), .int .u8 (c : Int), .int .u8 (d : Int)] w fun e w' => e = .returned (.bool true) ∧ Below w.heap.size w w' := by
  have hlt4 : ((s.size : Int) < 4) = False := by simp; omega
  go_enter Try.func8, Try.ntmps8
  go_wp2_with fail
  refine (pick_any _ _ _ (by omega) (by omega)).mono ?_
  have hpk := pick_bd at_ ((s.size : Int) - 3) (by omega)
  rintro e w1 ⟨rfl, rfl⟩
  obtain ⟨k, hk⟩ := Int.eq_ofNat_of_zero_le hpk.1
  rw [hk] at hpk ⊢
  clear hk
  have h0 : k < s.size := by omega
  have h1 : k + 1 < s.size := by omega
  have h2 : k + 2 < s.size := by omega
  have h3 : k + 3 < s.size := by omega
  have i0 : (0 : Int) ≤ (k : Int) := by omega
  have i1 : (k : Int) + 1 < (s.size : Int) := by omega
  have i2 : (k : Int) + 2 < (s.size : Int) := by omega
  have i3 : (k : Int) + 3 < (s.size : Int) := by omega
  have i4 : (k : Int) + 4 ≤ (s.size : Int) := by omega
  have k0 : k ≤ s.size := by omega
  have k4 : k + 4 ≤ s.size := by omega
  have j1 : (0 : Int) ≤ (k : Int) + 1 := by omega
  have j2 : (0 : Int) ≤ (k : Int) + 2 := by omega
  have j3 : (0 : Int) ≤ (k : Int) + 3 := by omega
  have j4 : (0 : Int) ≤ (k : Int) + 4 := by omega
  clear hpk
  obtain ⟨x0, hx0, e0, l0⟩ := xor_byte s[k].toNat a s[k].toNat_lt ha
  obtain ⟨x1, hx1, e1, l1⟩ := xor_byte s[k + 1].toNat b s[k + 1].toNat_lt hb
  obtain ⟨x2, hx2, e2, l2⟩ := xor_byte s[k + 2].toNat c s[k + 2].toNat_lt hc
  obtain ⟨x3, hx3, e3, l3⟩ := xor_byte s[k + 3].toNat d s[k + 3].toNat_lt hd
  have E0 := Lib.hid e0
  have E1 := Lib.hid e1
  have E2 := Lib.hid e2
  have E3 := Lib.hid e3
  clear e0 e1 e2 e3
  have z0 : (s.extract 0 k).size ≤ 140737488351232 := by rw [ByteArray.size_extract]; omega
  have z1 : (strOf [x0, x1, x2, x3]).size = 4 := rfl
  have z2 : (s.extract 0 k ++ strOf [x0, x1, x2, x3]).size ≤ 140737488351236 := by rw [ByteArray.size_append]; omega
  have z3 : (s.extract (k + 4) s.size).size ≤ 140737488351232 := by rw [ByteArray.size_extract]; omega
  have had1 := fun wx => run_string_add_sum (P := Try.prog) wx (s.extract 0 k) (strOf [x0, x1, x2, x3]) (by omega)
  have had2 := fun wx => run_string_add_sum (P := Try.prog) wx (s.extract 0 k ++ strOf [x0, x1, x2, x3]) (s.extract (k + 4) s.size) (by omega)
  clear z0 z1 z2 z3
  have hcv := run_four (P := Try.prog) w 36 9 5 Try.underlying36 Try.underlying5 Try.underlying9 x0 x1 x2 x3
  go_wp2_with fail
  go_region
  have HT : Hid (Cs.bytes (s.extract 0 k ++ strOf [x0, x1, x2, x3] ++ s.extract (k + 4) s.size) = (Cs.bytes s).take k ++ [x0, x1, x2, x3] ++ (Cs.bytes s).drop (k + 4)) := by exact bytes_burst s k x0 x1 x2 x3 l0 l1 l2 l3
  have HTS : Hid ((s.extract 0 k ++ strOf [x0, x1, x2, x3] ++ s.extract (k + 4) s.size).size ≤ 140737488351232) := by exact Nat.le_trans (Nat.le_of_eq (size_burst s k x0 x1 x2 x3 k4)) hs
  generalize s.extract 0 k ++ strOf [x0, x1, x2, x3] ++ s.extract (k + 4) s.size = t at HT HTS ⊢
  have HS := Lib.hid hs
  clear hcv had1 had2 hs
  have hb1 : Below w.heap.size w ((w.alloc (.cells #[.int .u8 (x0 : Int), .int .u8 (x1 : Int), .int .u8 (x2 : Int), .int .u8 (x3 : Int)] 5)).drew) := ((Below.refl _ _).alloc (Nat.le_refl _) _).drew
  generalize ((w.alloc (.cells #[.int .u8 (x0 : Int), .int .u8 (x1 : Int), .int .u8 (x2 : Int), .int .u8 (x3 : Int)] 5)).drew) = wa at hb1 ⊢
  go_wp2_with fail
  refine (table_any _).mono ?_
  rintro e w1 ⟨v, rfl, hown, hb2⟩
  obtain ⟨g, cap, rfl, _, _, _, hin⟩ := owned hown (by omega) (by omega)
  clear hown
  have HIN := Lib.hid hin
  clear hin
  have hb12 := hb1.trans (hb2.mono hb1.size)
  clear hb1 hb2
  go_wp2_with fail
  refine (awake_any _).mono ?_
  rintro e w2 ⟨rfl, hb3⟩
  have HIN2 := Lib.hid (HIN.out.later hb3)
  have hbb := hb12.trans (hb3.mono hb12.size)
  clear HIN hb3 hb12
  go_wp2_with fail
  refine (sum_any _ _ _ _ _ _ HIN2.out fits_table HS.out).mono ?_
  rintro e w3 ⟨rfl, rfl⟩
  go_wp2_with fail
  refine (sum_any _ _ _ _ _ _ HIN2.out fits_table HTS.out).mono ?_
  rintro e w3 ⟨rfl, rfl⟩
  go_wp2_with fail
  go_ret
  exact ⟨congrArg (fun z => Ending.returned (Value.bool z)) (Cs.equal_iff s t k x0 x1 x2 x3 k4 l0 l1 l2 l3 HT.out), hbb⟩

set_option maxRecDepth 20000 in
set_option maxHeartbeats 400000 in
theorem bursts_short (s : ByteArray) (at_ a b c d : Int) (w : World) (h4 : s.size < 4) :
    Calls Try.prog 8 #[.string s, .int .i64 at_, .int .u8 a, .int .u8 b, .int .u8 c, .int .u8 d] w fun e w' => e = .returned (.bool true) ∧ Below w.heap.size w w' := by
  have hlt : ((s.size : Int) < 4) := by omega
  go_enter Try.func8, Try.ntmps8
  go_wp2_with fail
  refine (awake_any _).mono ?_
  rintro e w2 ⟨rfl, hb⟩
  go_wp2_with fail
  go_ret
  exact ⟨rfl, hb⟩

theorem byte_of_wf (x : Int) (h : (Lit.int .u8 x).wf = true) : ∃ n : Nat, x = (n : Int) ∧ n < 256 := by
  have hmin : IntKind.u8.min = 0 := rfl
  have hmax : IntKind.u8.max = 255 := rfl
  simp only [Lit.wf, Bool.and_eq_true, decide_eq_true_eq] at h
  exact ⟨x.toNat, by omega, by omega⟩

theorem law_bursts (s : ByteArray) (at_ a b c d : Int) (w : World) (hs : s.size ≤ 140737488351232) (_ : (Lit.int .i64 at_).wf = true) (ha : (Lit.int .u8 a).wf = true) (hb : (Lit.int .u8 b).wf = true)
    (hc : (Lit.int .u8 c).wf = true) (hd : (Lit.int .u8 d).wf = true) :
    Calls Try.prog 8 #[.string s, .int .i64 at_, .int .u8 a, .int .u8 b, .int .u8 c, .int .u8 d] w fun e w' => e = .returned (.bool true) ∧ Below w.heap.size w w' := by
  by_cases h4 : 4 ≤ s.size
  · obtain ⟨a, rfl, la⟩ := byte_of_wf a ha
    obtain ⟨b, rfl, lb⟩ := byte_of_wf b hb
    obtain ⟨c, rfl, lc⟩ := byte_of_wf c hc
    obtain ⟨d, rfl, ld⟩ := byte_of_wf d hd
    exact bursts_nat s at_ a b c d w hs h4 la lb lc ld
  · exact bursts_short s at_ a b c d w (by omega)
end Go.Proofs.Ytgngcnpebfhclaa
