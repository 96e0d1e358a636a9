/- Plain laws on texts of dates: a text reads as its date, and the order of texts is the order of days. -/
import Derived.Test.YtjkbhckidocclaaRefParse
import Derived.Test.YtjkbhckidocclaaFormat
namespace Go.Proofs.Ytjkbhckidocclaa
open Go.RowKit

theorem bytes_strOf (ns : List Nat) (h : ∀ x ∈ ns, x < 256) : Tx.bytes (strOf ns) = ns := by
  show (ns.map UInt8.ofNat).map UInt8.toNat = ns
  rw [List.map_map]
  calc ns.map (UInt8.toNat ∘ UInt8.ofNat) = ns.map id := List.map_congr_left (fun x hx => by simp only [Function.comp, UInt8.toNat_ofNat', id]; exact Nat.mod_eq_of_lt (h x hx))
    _ = ns := List.map_id _

theorem text_lt (y m d : Nat) : ∀ x ∈ text y m d, x < 256 := by
  intro x hx
  simp only [text, List.mem_cons, List.not_mem_nil, or_false] at hx
  omega

theorem parse_text (n : Int) (y m d : Nat) (h : civilOf n y m d) : parseOf (Tx.bytes (strOf (text y m d))) = .returned (.tuple #[.int .i64 n, .int .i64 0]) := by
  obtain ⟨ok, num⟩ := h
  have hok := (Cal.ok_iff _ _ _).1 ok
  have hlen := Cal.len_bd (y : Int) (m : Int)
  rw [bytes_strOf _ (text_lt y m d)]
  have e0 : Tx.v0 (text y m d) 10 = (y : Int) := by
    show Tx.val ((text y m d).take 4) = _
    simp only [text, List.take_succ_cons, List.take_zero, Tx.val, List.foldl_cons, List.foldl_nil]
    omega
  have e1 : Tx.v1 (text y m d) 10 = (m : Int) := by
    show Tx.val (((text y m d).drop 5).take 2) = _
    simp only [text, List.drop_succ_cons, List.drop_zero, List.take_succ_cons, List.take_zero, Tx.val, List.foldl_cons, List.foldl_nil]
    omega
  have e2 : Tx.v2 (text y m d) 10 = (d : Int) := by
    show Tx.val (((text y m d).drop 8).take 2) = _
    simp only [text, List.drop_succ_cons, List.drop_zero, List.take_succ_cons, List.take_zero, Tx.val, List.foldl_cons, List.foldl_nil]
    omega
  have hg : Tx.okTo (text y m d) 10 := by
    intro j hj
    have dg : ∀ x, Tx.dig (48 + x % 10) = true := fun x => (Tx.dig_iff _).2 (by omega)
    match j, hj with
    | 0, _ => exact dg _
    | 1, _ => exact dg _
    | 2, _ => exact dg _
    | 3, _ => exact dg _
    | 4, _ => rfl
    | 5, _ => exact dg _
    | 6, _ => exact dg _
    | 7, _ => rfl
    | 8, _ => exact dg _
    | 9, _ => exact dg _
  rw [parse_ok _ rfl hg, e0, e1, e2]
  unfold daysOf
  rw [if_pos ok, num]

/-- Numbers are compared by their first difference. -/
theorem less_cons (a b : Nat) (x y : List Nat) (ha : a < 256) (hb : b < 256) :
    Op.bytesLess ((a :: x).map UInt8.ofNat) ((b :: y).map UInt8.ofNat) = (decide (a < b) || (decide (a = b) && Op.bytesLess (x.map UInt8.ofNat) (y.map UInt8.ofNat))) := by
  have e : ∀ c, c < 256 → (UInt8.ofNat c).toNat = c := fun c hc => by rw [UInt8.toNat_ofNat']; exact Nat.mod_eq_of_lt hc
  have h1 : decide (UInt8.ofNat a < UInt8.ofNat b) = decide (a < b) := by
    rw [Bool.eq_iff_iff, decide_eq_true_iff, decide_eq_true_iff, UInt8.lt_iff_toNat_lt, e a ha, e b hb]
  have h2 : (UInt8.ofNat a == UInt8.ofNat b) = decide (a = b) := by
    rw [Bool.eq_iff_iff, beq_iff_eq, decide_eq_true_iff, ← UInt8.toNat_inj, e a ha, e b hb]
  rw [List.map_cons, List.map_cons, Op.bytesLess, h1, h2]

theorem lex2 (y y' : Nat) (P : Prop) (h : y ≤ 99) (h' : y' ≤ 99) :
    (48 + y / 10 % 10 < 48 + y' / 10 % 10 ∨ 48 + y / 10 % 10 = 48 + y' / 10 % 10 ∧ (48 + y % 10 < 48 + y' % 10 ∨ 48 + y % 10 = 48 + y' % 10 ∧ P)) ↔ (y < y' ∨ y = y' ∧ P) := by
  by_cases hP : P <;> simp only [hP, and_true, and_false, or_false] <;> omega

theorem lex4 (y y' : Nat) (P : Prop) (h : y ≤ 9999) (h' : y' ≤ 9999) :
    (48 + y / 10 / 10 / 10 % 10 < 48 + y' / 10 / 10 / 10 % 10 ∨ 48 + y / 10 / 10 / 10 % 10 = 48 + y' / 10 / 10 / 10 % 10 ∧
      (48 + y / 10 / 10 % 10 < 48 + y' / 10 / 10 % 10 ∨ 48 + y / 10 / 10 % 10 = 48 + y' / 10 / 10 % 10 ∧
        (48 + y / 10 % 10 < 48 + y' / 10 % 10 ∨ 48 + y / 10 % 10 = 48 + y' / 10 % 10 ∧ (48 + y % 10 < 48 + y' % 10 ∨ 48 + y % 10 = 48 + y' % 10 ∧ P)))) ↔ (y < y' ∨ y = y' ∧ P) := by
  have a := lex2 (y % 100) (y' % 100) P (by omega) (by omega)
  have b := lex2 (y / 100) (y' / 100) (y % 100 < y' % 100 ∨ y % 100 = y' % 100 ∧ P) (by omega) (by omega)
  rw [show y % 100 / 10 % 10 = y / 10 % 10 from by omega, show y' % 100 / 10 % 10 = y' / 10 % 10 from by omega, show y % 100 % 10 = y % 10 from by omega, show y' % 100 % 10 = y' % 10 from by omega] at a
  rw [show y / 100 / 10 % 10 = y / 10 / 10 / 10 % 10 from by omega, show y' / 100 / 10 % 10 = y' / 10 / 10 / 10 % 10 from by omega, show y / 100 % 10 = y / 10 / 10 % 10 from by omega, show y' / 100 % 10 = y' / 10 / 10 % 10 from by omega, ← a] at b
  rw [b, a]
  by_cases hP : P <;> simp only [hP, and_true, and_false, or_false] <;> omega

theorem less_text (y m d y' m' d' : Nat) (hy : y ≤ 9999) (hm : m ≤ 12) (hd : d ≤ 31) (hy' : y' ≤ 9999) (hm' : m' ≤ 12) (hd' : d' ≤ 31) :
    Op.bytesLess ((text y m d).map UInt8.ofNat) ((text y' m' d').map UInt8.ofNat) = decide (y < y' ∨ (y = y' ∧ (m < m' ∨ (m = m' ∧ d < d')))) := by
  unfold text
  repeat rw [less_cons _ _ _ _ (by omega) (by omega)]
  rw [show Op.bytesLess (([] : List Nat).map UInt8.ofNat) (([] : List Nat).map UInt8.ofNat) = false from rfl]
  rw [Bool.eq_iff_iff]
  simp only [Bool.or_eq_true, Bool.and_eq_true, decide_eq_true_iff, Bool.false_eq_true]
  rw [lex4 y y' _ hy hy']
  simp only [Nat.lt_irrefl, false_or, true_and]
  rw [lex2 m m' _ (by omega) (by omega), lex2 d d' _ (by omega) (by omega)]
  simp only [and_false, or_false]

theorem toList_strOf (ns : List Nat) : (strOf ns).toList = ns.map UInt8.ofNat := by
  rw [ByteArray.toList_eq]; rfl

/-- The order of texts is the order of days. -/
theorem order_text (n n' : Int) (y m d y' m' d' : Nat) (h : civilOf n y m d) (h' : civilOf n' y' m' d') :
    Op.bytesLess (strOf (text y m d)).toList (strOf (text y' m' d')).toList = decide (n < n') := by
  obtain ⟨ok, num⟩ := h
  obtain ⟨ok', num'⟩ := h'
  have b := (Cal.ok_iff _ _ _).1 ok
  have b' := (Cal.ok_iff _ _ _).1 ok'
  have l := Cal.len_bd (y : Int) (m : Int)
  have l' := Cal.len_bd (y' : Int) (m' : Int)
  rw [toList_strOf, toList_strOf, less_text y m d y' m' d' (by omega) (by omega) (by omega) (by omega) (by omega) (by omega), Bool.eq_iff_iff, decide_eq_true_iff, decide_eq_true_iff]
  rcases Int.lt_or_le n n' with hlt | hle
  · refine ⟨fun _ => hlt, fun _ => ?_⟩
    have y1 := Cal.year_unique _ _ _ _ _ _ ok ok' (by omega)
    rcases Nat.lt_or_ge y y' with hy | hy
    · exact .inl hy
    · obtain rfl : y = y' := by omega
      have m1 := Cal.month_unique _ _ _ _ _ ok ok' (by omega)
      rcases Nat.lt_or_ge m m' with hm | hm
      · exact .inr ⟨rfl, .inl hm⟩
      · obtain rfl : m = m' := by omega
        refine .inr ⟨rfl, .inr ⟨rfl, ?_⟩⟩
        unfold Cal.num at num num'
        omega
  · refine ⟨fun hc => ?_, fun h => absurd h (by omega)⟩
    exfalso
    have y1 := Cal.year_unique _ _ _ _ _ _ ok' ok (by omega)
    rcases hc with hy | ⟨rfl, hm | ⟨rfl, hd⟩⟩
    · omega
    · have m1 := Cal.month_unique _ _ _ _ _ ok' ok (by omega)
      omega
    · unfold Cal.num at num num'
      omega

set_option maxRecDepth 20000 in
set_option maxHeartbeats 1000000 in
theorem law_roundtrip (n m : Int) (w : World) (_ : (Lit.int .i64 n).wf = true) (_ : (Lit.int .i64 m).wf = true) : Calls Try.prog 11 #[.int .i64 n, .int .i64 m] w fun e w' => e = .returned (.bool true) ∧ Below w.heap.size w w' := by
  have hp := pick_bd n 3652059 (by omega)
  have hq := pick_bd m 3652059 (by omega)
  go_enter Try.func11, Try.ntmps11
  go_wp2_with fail
  refine (day_any _ _).mono ?_
  rintro e w1 ⟨rfl, rfl⟩
  go_wp2_with fail
  refine (day_any _ _).mono ?_
  rintro e w1 ⟨rfl, rfl⟩
  generalize pick n 3652059 = p at hp
  generalize pick m 3652059 = q at hq
  obtain ⟨y, k, d, hc⟩ := date_nat (p - 719162) (by omega) (by omega)
  obtain ⟨y', k', d', hc'⟩ := date_nat (q - 719162) (by omega) (by omega)
  have HC := Lib.hid hc
  have HC' := Lib.hid hc'
  have HP := Lib.hid (parse_text _ _ _ _ hc)
  have ho := order_text _ _ _ _ _ _ _ _ hc hc'
  have hsz := size_text y k d
  have HSZ : Hid ((strOf (text y k d)).size ≤ 140737488351232) := by rw [show (strOf (text y k d)).size = 10 from hsz]; exact (by decide : (10 : Nat) ≤ 140737488351232)
  have HO := Lib.hid ho
  clear hc hc' ho hsz
  go_wp2_with fail
  refine (format_at _ _ _ _ _ HC.out).mono ?_
  rintro e w1 ⟨rfl, hb1⟩
  go_wp2_with fail
  refine (format_at _ _ _ _ _ HC'.out).mono ?_
  rintro e w2 ⟨rfl, hb2⟩
  have hb := hb1.trans (hb2.mono hb1.size)
  clear hb1 hb2
  generalize strOf (text y k d) = tx at HP HSZ HO ⊢
  generalize strOf (text y' k' d') = tx' at HO ⊢
  go_wp2_with fail
  refine (parse_any _ _ HSZ.out).mono ?_
  rw [HP.out]
  rintro e w3 ⟨rfl, rfl⟩
  go_wp2_with fail
  refine (awake_any _).mono ?_
  rintro e w3 ⟨rfl, rfl⟩
  go_wp2_with fail
  go_ret
  refine ⟨?_, hb⟩
  have hf : (Op.bytesLess tx.toList tx'.toList == decide (p < q)) = true := by
    rw [HO.out, beq_iff_eq, Bool.eq_iff_iff, decide_eq_true_iff, decide_eq_true_iff]; omega
  exact congrArg (fun z => Ending.returned (Value.bool z)) hf
end Go.Proofs.Ytjkbhckidocclaa
