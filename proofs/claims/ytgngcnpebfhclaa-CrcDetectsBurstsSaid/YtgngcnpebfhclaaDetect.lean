/- A plain law on checksums: with the table of the polynomial, a change of four neighbouring bytes changes the checksum. -/
import Derived.Test.YtgngcnpebfhclaaPlain
namespace Go.Proofs.Ytgngcnpebfhclaa
namespace Cs

theorem tops : (table.map fun x => x / 16777216).Nodup := by decide +kernel

theorem top_inj (i j : Nat) (hi : i < 256) (hj : j < 256) (h : table.getD i 0 / 16777216 = table.getD j 0 / 16777216) : i = j := by
  have hl : table.length = 256 := length_tab 256
  have hm : (table.map fun x => x / 16777216).length = 256 := by rw [List.length_map, hl]
  have n := List.pairwise_iff_getElem.1 tops
  rw [List.getD_eq_getElem?_getD, List.getD_eq_getElem?_getD, List.getElem?_eq_getElem (by omega), List.getElem?_eq_getElem (by omega)] at h
  have h' : (table.map fun x => x / 16777216)[i]'(by omega) = (table.map fun x => x / 16777216)[j]'(by omega) := by
    rw [List.getElem_map, List.getElem_map]; exact h
  rcases Nat.lt_trichotomy i j with hlt | he | hgt
  · exact absurd h' (n i j (by omega) (by omega) hlt)
  · exact he
  · exact absurd h'.symm (n j i (by omega) (by omega) hgt)

theorem xor_cancel (a x y : Nat) (h : a ^^^ x = a ^^^ y) : x = y := by
  have : a ^^^ (a ^^^ x) = a ^^^ (a ^^^ y) := by rw [h]
  rw [← Nat.xor_assoc, ← Nat.xor_assoc, Nat.xor_self, Nat.zero_xor, Nat.zero_xor] at this
  exact this
theorem xor_cancel' (a x y : Nat) (h : x ^^^ a = y ^^^ a) : x = y := by
  rw [Nat.xor_comm x, Nat.xor_comm y] at h
  exact xor_cancel a x y h
theorem xor_div (j x y : Nat) : (x ^^^ y) / 2 ^ j = x / 2 ^ j ^^^ y / 2 ^ j := by
  rw [← Nat.shiftRight_eq_div_pow, Nat.shiftRight_xor_distrib, Nat.shiftRight_eq_div_pow, Nat.shiftRight_eq_div_pow]

theorem step_top (u b : Nat) (hu : u < 4294967296) : step table u b / 16777216 = table.getD (u % 256 ^^^ b) 0 / 16777216 := by
  unfold step
  have h := xor_div 24 (u / 256) (table.getD (u % 256 ^^^ b) 0)
  have e : (2 : Nat) ^ 24 = 16777216 := by decide
  rw [e] at h
  rw [h, show u / 256 / 16777216 = 0 from by omega, Nat.zero_xor]

/-- One step backward: what agrees above the low j bytes behind the step came from one index, and agreed above the low j + 1 bytes. -/
theorem back (j : Nat) (hj : j ≤ 3) (u u' b b' : Nat) (hu : u < 4294967296) (hu' : u' < 4294967296) (hb : b < 256) (hb' : b' < 256)
    (h : step table u b / 2 ^ (8 * j) = step table u' b' / 2 ^ (8 * j)) : u % 256 ^^^ b = u' % 256 ^^^ b' ∧ u / 2 ^ (8 * (j + 1)) = u' / 2 ^ (8 * (j + 1)) := by
  have ht : step table u b / 16777216 = step table u' b' / 16777216 := by
    have e : (2 : Nat) ^ (8 * j) * 2 ^ (24 - 8 * j) = 16777216 := by
      rw [← Nat.pow_add, show 8 * j + (24 - 8 * j) = 24 from by omega]
    rw [← e, ← Nat.div_div_eq_div_mul, ← Nat.div_div_eq_div_mul, h]
  rw [step_top u b hu, step_top u' b' hu'] at ht
  have hi := top_inj _ _ (xor_idx u b hb) (xor_idx u' b' hb') ht
  refine ⟨hi, ?_⟩
  unfold step at h
  rw [hi, xor_div, xor_div] at h
  have h2 := xor_cancel' _ _ _ h
  rw [Nat.div_div_eq_div_mul, Nat.div_div_eq_div_mul] at h2
  have e : (2 : Nat) ^ (8 * (j + 1)) = 256 * 2 ^ (8 * j) := by
    rw [show 8 * (j + 1) = 8 + 8 * j from by omega, Nat.pow_add]
  rw [e]
  exact h2

theorem step_inj (u u' b : Nat) (hu : u < 4294967296) (hu' : u' < 4294967296) (hb : b < 256) (h : step table u b = step table u' b) : u = u' := by
  obtain ⟨hi, hd⟩ := back 0 (by omega) u u' b b hu hu' hb hb (by rw [h])
  have h1 := xor_cancel' _ _ _ hi
  simp only [Nat.zero_add, Nat.mul_one] at hd
  have e : (2 : Nat) ^ 8 = 256 := by decide
  rw [e] at hd
  omega

theorem fits_tab256 : fits table := fits_tab 256 (Nat.le_refl _)

theorem run_inj (bs : List Nat) (hbs : ∀ x ∈ bs, x < 256) : ∀ u u', u < 4294967296 → u' < 4294967296 → run table u bs = run table u' bs → u = u' := by
  induction bs with
  | nil => intro u u' _ _ h; exact h
  | cons b bs ih =>
    intro u u' hu hu' h
    have hb := hbs b (List.mem_cons_self ..)
    have := ih (fun x hx => hbs x (List.mem_cons_of_mem _ hx)) (step table u b) (step table u' b) (step_lt fits_tab256 u b hu) (step_lt fits_tab256 u' b hu') h
    exact step_inj u u' b hu hu' hb this

theorem four_inj (v : Nat) (hv : v < 4294967296) (a b c d a' b' c' d' : Nat) (ha : a < 256) (hb : b < 256) (hc : c < 256) (hd : d < 256) (ha' : a' < 256) (hb' : b' < 256) (hc' : c' < 256) (hd' : d' < 256)
    (h : run table v [a, b, c, d] = run table v [a', b', c', d']) : a = a' ∧ b = b' ∧ c = c' ∧ d = d' := by
  have f := fits_tab256
  have h' : step table (step table (step table (step table v a) b) c) d = step table (step table (step table (step table v a') b') c') d' := h
  have v1 := step_lt f v a hv
  have v1' := step_lt f v a' hv
  have v2 := step_lt f _ b v1
  have v2' := step_lt f _ b' v1'
  have v3 := step_lt f _ c v2
  have v3' := step_lt f _ c' v2'
  obtain ⟨i3, e3⟩ := back 0 (by omega) _ _ d d' v3 v3' hd hd' (by rw [h'])
  obtain ⟨i2, e2⟩ := back 1 (by omega) _ _ c c' v2 v2' hc hc' e3
  obtain ⟨i1, e1⟩ := back 2 (by omega) _ _ b b' v1 v1' hb hb' e2
  obtain ⟨i0, _⟩ := back 3 (by omega) _ _ a a' hv hv ha ha' e1
  have ea := xor_cancel _ _ _ i0
  subst ea
  have eb := xor_cancel _ _ _ i1
  subst eb
  have ec := xor_cancel _ _ _ i2
  subst ec
  have ed := xor_cancel _ _ _ i3
  exact ⟨rfl, rfl, rfl, ed⟩

theorem run_append (t : List Nat) (v : Nat) (xs ys : List Nat) : run t v (xs ++ ys) = run t (run t v xs) ys := by
  simp [run, List.foldl_append]

theorem detects (p q : List Nat) (a b c d a' b' c' d' : Nat) (hq : ∀ x ∈ q, x < 256) (ha : a < 256) (hb : b < 256) (hc : c < 256) (hd : d < 256) (ha' : a' < 256) (hb' : b' < 256) (hc' : c' < 256) (hd' : d' < 256)
    (h : sum table (p ++ [a, b, c, d] ++ q) = sum table (p ++ [a', b', c', d'] ++ q)) : a = a' ∧ b = b' ∧ c = c' ∧ d = d' := by
  have hl : table.length = 256 := length_tab 256
  unfold sum at h
  rw [if_pos hl, if_pos hl] at h
  have h1 := xor_cancel _ _ _ h
  rw [run_append, run_append, run_append, run_append] at h1
  have f := fits_tab256
  have hv := run_lt f p 4294967295 (by decide)
  exact four_inj _ hv _ _ _ _ _ _ _ _ ha hb hc hd ha' hb' hc' hd' (run_inj q hq _ _ (run_lt f _ _ hv) (run_lt f _ _ hv) h1)

theorem bytes_append (a b : ByteArray) : bytes (a ++ b) = bytes a ++ bytes b := by
  show (a ++ b).data.toList.map UInt8.toNat = a.data.toList.map UInt8.toNat ++ b.data.toList.map UInt8.toNat
  rw [ByteArray.data_append, Array.toList_append, List.map_append]

theorem bytes_extract (s : ByteArray) (i j : Nat) : bytes (s.extract i j) = ((bytes s).drop i).take (j - i) := by
  show (s.extract i j).data.toList.map UInt8.toNat = ((s.data.toList.map UInt8.toNat).drop i).take (j - i)
  rw [ByteArray.data_extract, Array.toList_extract, List.extract_eq_take_drop, List.map_take, List.map_drop]

theorem bytes_lt (s : ByteArray) : ∀ x ∈ bytes s, x < 256 := by
  intro x hx
  obtain ⟨y, _, rfl⟩ := List.mem_map.1 hx
  exact y.toNat_lt

theorem bytes_inj {s t : ByteArray} (h : bytes s = bytes t) : s = t := by
  have h1 : s.data.toList = t.data.toList := by
    refine List.map_inj_right (f := UInt8.toNat) ?_ |>.1 h
    intro x y hxy
    exact UInt8.toNat_inj.1 hxy
  have h2 : s.data = t.data := Array.toList_inj.1 h1
  cases s; cases t; simp at h2; rw [h2]

/-- The law's last line. -/
theorem equal_iff (s t : ByteArray) (k x0 x1 x2 x3 : Nat) (h : k + 4 ≤ s.size) (l0 : x0 < 256) (l1 : x1 < 256) (l2 : x2 < 256) (l3 : x3 < 256)
    (ht : bytes t = (bytes s).take k ++ [x0, x1, x2, x3] ++ (bytes s).drop (k + 4)) :
    ((((sum table (bytes s) : Nat) : Int) == ((sum table (bytes t) : Nat) : Int)) == (s.toList == t.toList)) = true := by
  by_cases hst : s = t
  · subst hst; simp
  · have hl := length_bytes s
    have g : ∀ j, j < 4 → (bytes s)[k + j]? = some ((bytes s).getD (k + j) 0) := by
      intro j hj
      rw [List.getD_eq_getElem?_getD, List.getElem?_eq_getElem (by omega)]; rfl
    have gl : ∀ j, (bytes s).getD j 0 < 256 := by
      intro j
      by_cases hj : j < (bytes s).length
      · rw [List.getD_eq_getElem?_getD, List.getElem?_eq_getElem hj]; exact bytes_lt s _ (List.getElem_mem hj)
      · rw [List.getD_eq_getElem?_getD, List.getElem?_eq_none (by omega)]; decide
    have hs : bytes s = (bytes s).take k ++ [(bytes s).getD (k + 0) 0, (bytes s).getD (k + 1) 0, (bytes s).getD (k + 2) 0, (bytes s).getD (k + 3) 0] ++ (bytes s).drop (k + 4) := by
      have d : (bytes s).drop k = (bytes s).getD (k + 0) 0 :: (bytes s).getD (k + 1) 0 :: (bytes s).getD (k + 2) 0 :: (bytes s).getD (k + 3) 0 :: (bytes s).drop (k + 4) := by
        have one : ∀ j, j < 4 → (bytes s).drop (k + j) = (bytes s).getD (k + j) 0 :: (bytes s).drop (k + (j + 1)) := by
          intro j hj
          rw [List.drop_eq_getElem_cons (by omega), List.getD_eq_getElem?_getD, List.getElem?_eq_getElem (by omega)]; rfl
        have := one 0 (by omega)
        rw [one 1 (by omega), one 2 (by omega), one 3 (by omega)] at this
        exact this
      rw [List.append_assoc, List.cons_append, List.cons_append, List.cons_append, List.cons_append, List.nil_append, ← d, List.take_append_drop]
    have hne : sum table (bytes s) ≠ sum table (bytes t) := by
      intro he
      have := detects ((bytes s).take k) ((bytes s).drop (k + 4)) _ _ _ _ _ _ _ _ (fun x hx => bytes_lt s x (List.mem_of_mem_drop hx)) (gl _) (gl _) (gl _) (gl _) l0 l1 l2 l3 (by rw [← hs, ← ht]; exact he)
      obtain ⟨q0, q1, q2, q3⟩ := this
      exact hst (bytes_inj (by rw [ht, ← q0, ← q1, ← q2, ← q3]; exact hs))
    have h1 : (((sum table (bytes s) : Nat) : Int) == ((sum table (bytes t) : Nat) : Int)) = false := by rw [beq_eq_false_iff_ne]; omega
    have h2 : (s.toList == t.toList) = false := by
      rw [beq_eq_false_iff_ne, ByteArray.toList_eq, ByteArray.toList_eq]
      intro he
      exact hst (bytes_inj (by show s.data.toList.map _ = t.data.toList.map _; rw [he]))
    rw [h1, h2]; rfl

end Cs
end Go.Proofs.Ytgngcnpebfhclaa
