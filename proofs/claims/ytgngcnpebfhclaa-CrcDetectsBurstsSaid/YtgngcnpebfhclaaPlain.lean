/- Plain laws on checksums: no program in sight. -/
import Derived.WalkKit
import Derived.Laws.BitsAllLaws
namespace Go.Proofs.Ytgngcnpebfhclaa
namespace Cs

/-- One step of a checksum with a table. -/
def step (t : List Nat) (v b : Nat) : Nat := (v / 256) ^^^ t.getD ((v % 256) ^^^ b) 0

/-- The value after a list of bytes. -/
def run (t : List Nat) (v : Nat) (bs : List Nat) : Nat := bs.foldl (step t) v

/-- The bytes of a string as numbers. -/
def bytes (s : ByteArray) : List Nat := s.data.toList.map UInt8.toNat

/-- The checksum of a list of bytes. -/
def sum (t : List Nat) (bs : List Nat) : Nat := if t.length = 256 then 4294967295 ^^^ run t 4294967295 bs else 0

def fits (t : List Nat) : Prop := ∀ x ∈ t, x < 4294967296

theorem getD_lt {t : List Nat} (h : fits t) (j : Nat) : t.getD j 0 < 4294967296 := by
  by_cases hj : j < t.length
  · rw [List.getD_eq_getElem?_getD, List.getElem?_eq_getElem hj]; exact h _ (List.getElem_mem hj)
  · rw [List.getD_eq_getElem?_getD, List.getElem?_eq_none (by omega)]; decide

theorem step_lt {t : List Nat} (h : fits t) (v b : Nat) (hv : v < 4294967296) : step t v b < 4294967296 := by
  unfold step
  refine Nat.xor_lt_two_pow (n := 32) ?_ (getD_lt h _)
  omega

theorem run_lt {t : List Nat} (h : fits t) (bs : List Nat) : ∀ v, v < 4294967296 → run t v bs < 4294967296 := by
  induction bs with
  | nil => intro v hv; exact hv
  | cons b bs ih => intro v hv; exact ih _ (step_lt h v b hv)

theorem run_snoc (t : List Nat) (v : Nat) (bs : List Nat) (b : Nat) : run t v (bs ++ [b]) = step t (run t v bs) b := by
  simp [run, List.foldl_append]

theorem take_snoc (bs : List Nat) (k : Nat) (h : k < bs.length) : bs.take (k + 1) = bs.take k ++ [bs.getD k 0] := by
  rw [List.take_succ_eq_append_getElem h, List.getD_eq_getElem?_getD, List.getElem?_eq_getElem h]; rfl

theorem xor_idx (v b : Nat) (hb : b < 256) : (v % 256) ^^^ b < 256 :=
  Nat.xor_lt_two_pow (n := 8) (by omega) hb

theorem walk_idx (v b : Nat) (hb : b < 256) : bits .xor .u8 ((v : Int) % 256) (b : Int) = ((v % 256 ^^^ b : Nat) : Int) := by
  have e : (v : Int) % 256 = ((v % 256 : Nat) : Int) := by omega
  rw [e]
  exact u8_xor_nat _ _ (by omega) hb

theorem walk_xor (x y : Nat) (hx : x < 4294967296) (hy : y < 4294967296) : bits .xor .u32 (x : Int) (y : Int) = ((x ^^^ y : Nat) : Int) := u32_xor_nat x y hx hy

theorem walk_step {t : List Nat} (h : fits t) (v b : Nat) (hv : v < 4294967296) : bits .xor .u32 ((v : Int) / 256) ((t.getD (v % 256 ^^^ b) 0 : Nat) : Int) = ((step t v b : Nat) : Int) := by
  have e : (v : Int) / 256 = ((v / 256 : Nat) : Int) := by omega
  rw [e]
  exact walk_xor _ _ (by omega) (getD_lt h _)

theorem walk_not (x : Nat) (hx : x < 4294967296) : bits .xor .u32 IntKind.u32.max (x : Int) = ((4294967295 ^^^ x : Nat) : Int) :=
  walk_xor 4294967295 x (by decide) hx

theorem length_bytes (s : ByteArray) : (bytes s).length = s.size := by
  show (s.data.toList.map UInt8.toNat).length = s.data.size
  rw [List.length_map, Array.length_toList]

theorem bytes_get (s : ByteArray) (k : Nat) (h : k < s.size) : (bytes s).getD k 0 = s[k].toNat := by
  have h' : k < s.data.size := h
  have e : (bytes s)[k]? = some (s.data[k].toNat) := by
    show (s.data.toList.map UInt8.toNat)[k]? = _
    rw [List.getElem?_map, Array.getElem?_toList, Array.getElem?_eq_getElem h']; rfl
  rw [List.getD_eq_getElem?_getD, e]; rfl

/-- The checksum of two strings together, out of their checksums (a, b) and the length n of the second one. -/
def join (t : List Nat) (a b : Nat) (n : Int) : Nat := if t.length = 256 ∧ 0 ≤ n ∧ n ≤ 1073741824 then run t a (List.replicate n.toNat 0) ^^^ b else 0

theorem run_rep (t : List Nat) (a k : Nat) : run t a (List.replicate (k + 1) 0) = step t (run t a (List.replicate k 0)) 0 := by
  rw [List.replicate_succ', run_snoc]

theorem sum_other (t : List Nat) (bs : List Nat) (h : t.length ≠ 256) : sum t bs = 0 := by unfold sum; rw [if_neg h]

/-- One step of the polynomial. -/
def half (v : Nat) : Nat := if v % 2 = 1 then (v / 2) ^^^ 2197175160 else v / 2

/-- k steps. -/
def hal : Nat → Nat → Nat
  | 0, v => v
  | k + 1, v => half (hal k v)

/-- The first n elements of the table. -/
def tab (n : Nat) : List Nat := (List.range n).map (hal 8)

/-- The table. -/
def table : List Nat := tab 256

theorem half_lt (v : Nat) (h : v < 4294967296) : half v < 4294967296 := by
  unfold half
  split
  · exact Nat.xor_lt_two_pow (n := 32) (by omega) (by decide)
  · omega

theorem hal_lt (k v : Nat) (h : v < 4294967296) : hal k v < 4294967296 := by
  induction k with
  | zero => exact h
  | succ k ih => exact half_lt _ ih

theorem length_tab (n : Nat) : (tab n).length = n := by simp [tab]

theorem tab_snoc (n : Nat) : tab (n + 1) = tab n ++ [hal 8 n] := by
  simp [tab, List.range_succ]

theorem fits_tab (n : Nat) (h : n ≤ 256) : fits (tab n) := by
  intro x hx
  obtain ⟨i, hi, rfl⟩ := List.mem_map.1 hx
  exact hal_lt _ _ (by have := List.mem_range.1 hi; omega)

theorem walk_odd (v : Nat) (hv : v < 4294967296) (h : v % 2 = 1) : bits .and .u32 (v : Int) 1 = 1 ∧ bits .xor .u32 ((v : Int) / 2) 2197175160 = ((half v : Nat) : Int) := by
  refine ⟨?_, ?_⟩
  · have e := u32_and_nat v 1 hv (by decide)
    rw [Nat.and_one_is_mod, h] at e
    exact e
  · have e : (v : Int) / 2 = ((v / 2 : Nat) : Int) := by omega
    rw [e]
    unfold half
    rw [if_pos h]
    exact walk_xor (v / 2) 2197175160 (by omega) (by decide)

theorem walk_even (v : Nat) (hv : v < 4294967296) (h : v % 2 = 0) : bits .and .u32 (v : Int) 1 = 0 ∧ bits .xor .u32 ((v : Int) / 2) 0 = ((half v : Nat) : Int) ∧ (v : Int) / 2 = ((half v : Nat) : Int) := by
  have e2 : (v : Int) / 2 = ((v / 2 : Nat) : Int) := by omega
  have e3 : half v = v / 2 := by unfold half; rw [if_neg (by omega)]
  refine ⟨?_, ?_, ?_⟩
  · have e := u32_and_nat v 1 hv (by decide)
    rw [Nat.and_one_is_mod, h] at e
    exact e
  · rw [e2, e3]
    have := walk_xor (v / 2) 0 (by omega) (by decide)
    rw [Nat.xor_zero] at this
    exact this
  · rw [e2, e3]

end Cs
end Go.Proofs.Ytgngcnpebfhclaa
