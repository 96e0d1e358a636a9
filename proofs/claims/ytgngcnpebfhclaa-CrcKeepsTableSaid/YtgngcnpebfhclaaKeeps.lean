/- The walks of Spare, of Kept and of the law CrcKeepsTable. -/
import Derived.Test.YtgngcnpebfhclaaJoin
namespace Go.Proofs.Ytgngcnpebfhclaa
open Go.RowKit

theorem newsOf {w : World} {a : Addr} {n : Nat} {l : List Nat} (h : NatsIn .u32 w (some a) n l) : ∀ j u, (u32s l)[j]? = some u → w.cell? (a.add j) = some u := by
  intro j u hj
  have hjl : j < l.length := by have := (List.getElem?_eq_some_iff.1 hj).1; simpa [u32s] using this
  obtain ⟨b, off, e, _, hc⟩ := h.cells j (by rw [← h.len]; exact hjl)
  obtain rfl := Option.some.inj e
  rw [u32s_get _ _ hjl] at hj
  rw [Addr.add_lit, hc]
  exact hj

theorem oneCells (l : List Nat) : ∀ u ∈ u32s l, u.oneCell' = true := by
  intro u hu
  obtain ⟨_, _, rfl⟩ := List.mem_map.1 hu
  rfl

set_option maxRecDepth 20000 in
set_option maxHeartbeats 1000000 in
theorem spare_256 (a : Option Addr) (cap : Nat) (l : List Nat) (x : Nat) (w : World) (hin : NatsIn .u32 w a 256 l) :
    Calls Try.prog 17 #[.slice a 256 cap, .int .u32 (x : Int)] w fun e w' => ∃ g, e = .returned (.slice (some ⟨g, 0, none⟩) 256 259) ∧ g < w'.heap.size ∧ NatsIn .u32 w' (some ⟨g, 0, none⟩) 259 (l ++ [x, x, x]) ∧ Below w.heap.size w w' := by
  obtain ⟨i0, hi, hz0, hz1, hz2⟩ := info_parts info23
  have HIN := Lib.hid hin
  obtain ⟨b, off, rfl, hb, _⟩ := hin.cells 0 (by omega)
  have hl := hin.len
  have HL := Lib.hid hl
  have hlu : (u32s l).length = 256 * 1 := by simp [u32s, hl]
  have HLU := Lib.hid hlu
  clear hin hl hlu
  have hown0 : (w.alloc (.cells #[] 23)).ownsRow w.heap.size 23 1 (.slice (some ⟨w.heap.size, 0, none⟩) 0 0) 0 [] := World.ownsRow_lit w #[] 0 (Nat.le_refl _) (Nat.zero_le _) rfl
  have hbl : Below w.heap.size w (w.alloc (.cells #[] 23)) := (Below.refl _ _).alloc (Nat.le_refl _) _
  have HN := Lib.hid (newsOf (HIN.out.later hbl))
  have HO := Lib.hid hown0
  clear hown0
  go_enter Try.func17, Try.ntmps17
  go_wp2_with (at_builtin; refine wpList_append_own _ rfl (.tmp 6) (.tmp 7) 25 rfl w.heap.size 23 i0 (.int .u32 0) 1 4 Try.underlying25 hi hz0 hz1 hz2 rfl (by decide) _ _ _ rfl HO.out ⟨b, off, none⟩ 256 cap (u32s l) rfl HLU.out HN.out (oneCells l) ?c3 ?c4 ?c5 ?_)
  case c3 => unfold maxLen; omega
  case c4 => omega
  case c5 => simp
  intro v1 w1 hown1 hgrow1 _
  have hb1 : Below w.heap.size w w1 := hbl.grown hgrow1 (by simp) (fun k hk => by cases hk; exact Nat.le_refl _)
  obtain ⟨g1, cap1, rfl, hg1, _, _, _⟩ := owned hown1 (by omega) (by omega)
  have HO1 := Lib.hid hown1
  clear hown1 hgrow1 hbl HO HN
  go_wp2_with (at_builtin; refine wpList_append_own _ rfl (.tmp 9) (.tmp 13) 25 rfl w.heap.size 23 i0 (.int .u32 0) 1 4 Try.underlying25 hi hz0 hz1 hz2 rfl (by decide) _ _ _ rfl (HO1.out.alloc _) ⟨w1.heap.size, 0, none⟩ 3 3 (u32s [x, x, x]) rfl rfl ?d1 (oneCells _) ?d3 ?d4 ?d5 ?_)
  case d1 =>
    intro j u hj
    match j, hj with
    | 0, hj => simp [u32s] at hj; subst hj; simp [Addr.add]
    | 1, hj => simp [u32s] at hj; subst hj; simp [Addr.add]
    | 2, hj => simp [u32s] at hj; subst hj; simp [Addr.add]
  case d3 => unfold maxLen; omega
  case d4 => omega
  case d5 => have := hb1.size; simp; omega
  intro v2 w2 hown2 hgrow2 _
  rw [u32s_append] at hown2
  have hb2 : Below w.heap.size w w2 := (hb1.alloc hb1.size _).grown hgrow2 (by have := hb1.size; simp; omega) (fun k hk => by cases hk; exact hg1)
  obtain ⟨g2, cap2, rfl, hg2, hgl2, hcap2, hin2⟩ := owned hown2 (by omega) (by omega)
  have HI2 := Lib.hid hin2
  clear hown2 hgrow2 hin2 HO1
  have h1 : (259 : Int) ≤ (cap2 : Int) := by omega
  go_wp2_with fail
  go_ret
  exact ⟨g2, rfl, hgl2, HI2.out, hb2⟩

set_option maxRecDepth 20000 in
set_option maxHeartbeats 1000000 in
theorem kept_256 (g : Nat) (b : Option Addr) (cb : Nat) (l : List Nat) (x : Nat) (w : World) (hg : g < w.heap.size) (ha : NatsIn .u32 w (some ⟨g, 0, none⟩) 259 (l ++ [x, x, x])) (hb : NatsIn .u32 w b 256 l) :
    Calls Try.prog 18 #[.slice (some ⟨g, 0, none⟩) 256 259, .slice b 256 cb, .int .u32 (x : Int)] w fun e w' => e = .returned (.bool true) ∧ Below w.heap.size w w' := by
  have hl := hb.len
  have ha0 : NatsIn .u32 w (some ⟨g, 0, none⟩) 256 l := ⟨hl, by omega, fun t ht => by
    obtain ⟨b', off', e, hlt, hc⟩ := ha.cells t (by omega)
    refine ⟨b', off', e, hlt, ?_⟩
    rw [hc]
    simp [List.getD_eq_getElem?_getD, List.getElem?_append_left (show t < l.length by omega)]⟩
  have get : ∀ j, j < 3 → w.cell? ⟨g, 256 + j, none⟩ = some (.int .u32 (x : Int)) := by
    intro j hj
    obtain ⟨b', off', e, _, hc⟩ := ha.cells (256 + j) (by omega)
    simp only [Option.some.injEq, Addr.mk.injEq, and_true] at e
    obtain ⟨rfl, rfl⟩ := e
    rw [Nat.zero_add] at hc
    rw [hc, List.getD_eq_getElem?_getD, List.getElem?_append_right (by omega), hl, Nat.add_sub_cancel_left]
    match j, hj with
    | 0, _ => rfl
    | 1, _ => rfl
    | 2, _ => rfl
  have HA := Lib.hid ha0
  have HB := Lib.hid hb
  have HG := Lib.hid get
  clear ha ha0 hb get hl
  go_enter Try.func18, Try.ntmps18
  go_wp2_with fail
  refine (same_any _ _ _ _ _ _ _ HA.out HB.out).mono ?_
  rintro e w1 ⟨rfl, hbel⟩
  have c0 : w1.cell? ⟨g, 256, none⟩ = some (.int .u32 (x : Int)) := (hbel.cell (by exact hg)).trans (HG.out 0 (by omega))
  have c1 : w1.cell? ⟨g, 257, none⟩ = some (.int .u32 (x : Int)) := (hbel.cell (by exact hg)).trans (HG.out 1 (by omega))
  have c2 : w1.cell? ⟨g, 258, none⟩ = some (.int .u32 (x : Int)) := (hbel.cell (by exact hg)).trans (HG.out 2 (by omega))
  go_wp2_with fail
  go_ret
  exact ⟨rfl, hbel⟩

/-- The first numbers of a row. -/
theorem NatsIn.first {k : IntKind} {w : World} {a : Option Addr} {n m : Nat} {l r : List Nat} (h : NatsIn k w a m (l ++ r)) (hl : l.length = n) (hm : n ≤ m) : NatsIn k w a n l :=
  ⟨hl, by have := h.reach; omega, fun t ht => by
    obtain ⟨b', off', e, hlt, hc⟩ := h.cells t (by omega)
    refine ⟨b', off', e, hlt, ?_⟩
    rw [hc]
    simp [List.getD_eq_getElem?_getD, List.getElem?_append_left (show t < l.length by omega)]⟩

set_option maxRecDepth 20000 in
set_option maxHeartbeats 1000000 in
theorem law_keeps (s : ByteArray) (n : Int) (w : World) (hs : s.size ≤ 140737488351232) (_ : (Lit.int .i64 n).wf = true) :
    Calls Try.prog 5 #[.string s, .int .i64 n] w fun e w' => e = .returned (.bool true) ∧ Below w.heap.size w w' := by
  have HS := Lib.hid hs
  clear hs
  go_enter Try.func5, Try.ntmps5
  go_wp2_with fail
  refine (refTable_any _).mono ?_
  rintro e w1 ⟨v, rfl, hown, hb1⟩
  obtain ⟨g, cap, rfl, _, _, _, hin⟩ := owned hown (by omega) (by omega)
  clear hown
  have HIN := Lib.hid hin
  clear hin
  go_wp2_with fail
  refine (spare_256 _ _ _ 7 _ HIN.out).mono ?_
  rintro e w2 ⟨g2, rfl, hg2, hin2, hb2⟩
  have HIN2 := Lib.hid hin2
  have HT := Lib.hid (hin2.first length_table (by omega))
  have hb12 := hb1.trans (hb2.mono hb1.size)
  clear hin2 hb1 hb2
  go_wp2_with fail
  refine (sum_any _ _ _ _ _ _ HT.out fits_table HS.out).mono ?_
  rintro e w3 ⟨rfl, rfl⟩
  go_wp2_with fail
  refine (pick_any n 50 _ (by omega) (by omega)).mono ?_
  rintro e w3 ⟨rfl, rfl⟩
  go_wp2_with fail
  refine (join_any _ _ _ _ 1 2 _ _ HT.out fits_table (by decide) (by decide)).mono ?_
  rintro e w3 ⟨rfl, rfl⟩
  go_wp2_with fail
  refine (awake_any _).mono ?_
  rintro e w3 ⟨rfl, hb3⟩
  go_wp2_with fail
  refine (refTable_any _).mono ?_
  rintro e w4 ⟨v, rfl, hown, hb4⟩
  obtain ⟨g4, cap4, rfl, _, _, _, hin4⟩ := owned hown (by omega) (by omega)
  clear hown
  have HIN4 := Lib.hid hin4
  have hb34 := hb3.trans (hb4.mono hb3.size)
  have HIN3 := Lib.hid (HIN2.out.later hb34)
  have hg4 : g2 < w4.heap.size := by have := hb34.size; omega
  have hb := hb12.trans (hb34.mono hb12.size)
  clear hin4 hb3 hb4 hb34 hb12
  go_wp2_with fail
  refine (kept_256 _ _ _ _ 7 _ hg4 HIN3.out HIN4.out).mono ?_
  rintro e w5 ⟨rfl, hb5⟩
  have hbb := hb.trans (hb5.mono hb.size)
  clear hb hb5
  go_wp2_with fail
  go_ret
  exact ⟨rfl, hbb⟩
end Go.Proofs.Ytgngcnpebfhclaa
