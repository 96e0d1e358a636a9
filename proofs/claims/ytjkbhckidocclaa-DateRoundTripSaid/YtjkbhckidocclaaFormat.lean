/- The contracts of put and of Format: ten bytes, the digits of a date. -/
import Derived.Test.YtjkbhckidocclaaRefCivil
import Derived.Test.YtjkbhckidocclaaText
import Derived.Lib.SlBytesConst
namespace Go.Proofs.Ytjkbhckidocclaa
open Go.RowKit

/-- The cells of a row of bytes. -/
def u8s (ns : List Nat) : List Value := ns.map fun x : Nat => Value.int .u8 (x : Int)

/-- The string of these bytes. -/
def strOf (ns : List Nat) : ByteArray := ⟨(ns.map UInt8.ofNat).toArray⟩

theorem foldl_push (ns : List Int) : ∀ s : ByteArray, (ns.foldl (fun r n => r.push (UInt8.ofNat n.toNat)) s).data = s.data ++ (ns.map fun n => UInt8.ofNat n.toNat).toArray := by
  induction ns with
  | nil => intro s; simp
  | cons a ns ih => intro s; rw [List.foldl_cons, ih]; simp [ByteArray.push]

/-- 'string(b)', b a row of bytes. -/
theorem run_string_cells {P : Program} (w : World) (src dst e : TypeId) (hs : P.underlying src = some (.slice e)) (he : P.underlying e = some (.int .u8)) (hd : P.underlying dst = some .string)
    (g n cap : Nat) (ns : List Nat) (hlen : (u8s ns).length = n) (hc : ∀ j, j < n → w.cell? ⟨g, j, none⟩ = (u8s ns)[j]?) :
    (convert src dst (.slice (some ⟨g, 0, none⟩) n cap)).run P w = .ok (.string (strOf ns)) w := by
  rw [run_convert_bytes_string w src dst e _ n cap hs he hd]
  have hload : (loadCells ⟨g, 0, none⟩ n).run P w = .ok ((ns.map fun x : Nat => (x : Int)).map (Value.int .u8)).toArray w := by
    have h := run_loadCells_list (P := P) (w := w) ⟨g, 0, none⟩ (u8s ns) (fun j v hj => by
      have hjl := (List.getElem?_eq_some_iff.1 hj).1
      rw [Addr.add_lit, Nat.zero_add, hc j (by omega)]; exact hj)
    rw [hlen] at h
    rw [h]
    simp [u8s, List.map_map, Function.comp_def]
  rw [run_bytesToString w _ n cap _ hload]
  have e1 : (List.foldl (fun r n => r.push (UInt8.ofNat n.toNat)) ByteArray.empty (ns.map fun x : Nat => (x : Int))) = strOf ns := by
    have := foldl_push (ns.map fun x : Nat => (x : Int)) ByteArray.empty
    generalize List.foldl (fun (r : ByteArray) (n : Int) => r.push (UInt8.ofNat n.toNat)) ByteArray.empty (ns.map fun x : Nat => (x : Int)) = s at this ⊢
    cases s with
    | mk d => simp at this; subst this; simp [strOf, Function.comp_def]
  rw [e1]

theorem u8s_get (ns : List Nat) (j : Nat) (h : j < ns.length) : (u8s ns)[j]? = some (.int .u8 ((ns.getD j 0 : Nat) : Int)) := by
  simp [u8s, List.getD_eq_getElem?_getD, List.getElem?_eq_getElem h]
theorem u8s_set (ns : List Nat) (j x : Nat) : (u8s ns).set j (.int .u8 (x : Int)) = u8s (ns.set j x) := by
  simp [u8s, List.map_set]
theorem u8s_zero (n : Nat) : (madeCells #[Value.int .u8 0] n).toList = u8s (List.replicate n 0) := by
  simp [u8s, toList_madeCells_one]


/-- The bytes behind 'put' of a number into the len bytes from off on. -/
def putN (bs : List Nat) (off n : Nat) : Nat → List Nat
  | 0 => bs
  | len + 1 => putN (bs.set (off + len) (48 + n % 10)) off (n / 10) len

theorem grown_set (w : World) (g i : Nat) (cs : Array Value) (t : TypeId) (fr : Nat × Nat) (v : Value) (hg : w.heap[g]? = some (.cells cs t fr)) :
    (w.setCell ⟨g, i, none⟩ v).heap[g]? = some (.cells (cs.setIfInBounds i v) t fr) ∧ w.grownBy (w.setCell ⟨g, i, none⟩ v) (some g) := by
  refine ⟨?_, ⟨rfl, rfl, rfl, by simp, fun k _ hk => heap_setCell_other w ⟨g, i, none⟩ k v (fun e => hk (by simp [e]))⟩⟩
  rw [setCell_eq_setRow w g i cs t fr v hg]
  exact setRow_heap w g cs _ t fr hg

theorem not_frozen (w : World) (g j : Nat) (cs : Array Value) (t : TypeId) (hg : w.heap[g]? = some (.cells cs t (10, 11))) (hj : j < 10) : w.frozen? ⟨g, j, none⟩ = false := by
  simp [World.frozen?, hg]; omega

theorem grownBy_trans {a b c : World} {row : Option Nat} (h : a.grownBy b row) (k : b.grownBy c row) : a.grownBy c row :=
  ⟨k.os.trans h.os, k.tape.trans h.tape, k.output.trans h.output, Nat.le_trans h.size k.size, fun i hi hn => (k.block i (Nat.lt_of_lt_of_le hi h.size) hn).trans (h.block i hi hn)⟩

set_option maxRecDepth 20000 in
set_option maxHeartbeats 1000000 in
theorem put_any (g off len cap : Nat) (bs : List Nat) (N : Nat) (w : World) (hb : w.heap[g]? = some (.cells (u8s bs).toArray 5 (10, 11))) (hl : bs.length = 10) (h : off + len ≤ 10) (hN : N ≤ 1000000) :
    Calls Try.prog 28 #[.slice (some ⟨g, off, none⟩) len cap, .int .i64 (N : Int)] w fun e w' => e = .returned (.tuple #[]) ∧ w'.heap[g]? = some (.cells (u8s (putN bs off N len)).toArray 5 (10, 11)) ∧ w.grownBy w' (some g) := by
  have HB := Lib.hid hb
  have HL := Lib.hid hl
  clear hb hl
  go_enter Try.func28, Try.ntmps28
  go_wp2_with fail
  go_loopw [1, 4] (fun n i wr => ∃ (k : Nat) (b2 : List Nat) (n2 : Nat), k ≤ len ∧ i = .int .i64 ((k : Int) - 1) ∧ n = .int .i64 (n2 : Int) ∧ n2 ≤ 1000000 ∧ b2.length = 10 ∧ wr.heap[g]? = some (.cells (u8s b2).toArray 5 (10, 11)) ∧ putN b2 off n2 k = putN bs off N len ∧ w.grownBy wr (some g))
    (fun _ i _ => (intOf i + 1).toNat)
  case atStart => exact ⟨len, bs, N, Nat.le_refl _, by go_num, rfl, hN, HL.out, HB.out, rfl, World.grownBy.refl _ _⟩
  case round =>
    obtain ⟨k, b2, n2, hk, rfl, rfl, hn2, hl2, hb2, hput, hgr⟩ := hrel
    cases k with
    | zero =>
      have HX : Hid (wr.heap[g]? = some (.cells (u8s (putN bs off N len)).toArray 5 (10, 11))) := by
        show wr.heap[g]? = _
        rw [← hput]; exact hb2
      clear hput hb2 hl2
      go_wp2_with fail
      go_end0
      exact ⟨rfl, HX.out, hgr⟩
    | succ j =>
      have e1 : (((j + 1 : Nat) : Int) - 1) = (j : Int) := by omega
      rw [e1]
      have hcell := cell_of_row wr g (off + j) _ 5 (10, 11) hb2
      rw [List.getElem?_toArray, u8s_get _ _ (by omega)] at hcell
      have hfz := not_frozen wr g (off + j) _ 5 hb2 (by omega)
      have hst := grown_set wr g (off + j) _ 5 (10, 11) (.int .u8 ((48 + n2 % 10 : Nat) : Int)) hb2
      have e2 : ((u8s b2).toArray.setIfInBounds (off + j) (.int .u8 ((48 + n2 % 10 : Nat) : Int))) = (u8s (b2.set (off + j) (48 + n2 % 10))).toArray := by
        rw [← u8s_set]; simp
      rw [e2] at hst
      have e3 : ((48 + n2 % 10 : Nat) : Int) = 48 + (n2 : Int) % 10 := by omega
      rw [e3] at hst
      have HST := Lib.hid hst
      have HP := Lib.hid hput
      have HL2 := Lib.hid hl2
      generalize b2.getD (off + j) 0 = y at hcell
      have i0 : (0 : Int) ≤ (j : Int) := by omega
      have i1 : (j : Int) < (len : Int) := by omega
      clear hst hput hb2 hl2 e1 e2 e3
      go_wp2_with fail
      go_roundw
      case rel =>
        refine ⟨j, b2.set (off + j) (48 + n2 % 10), n2 / 10, by omega, by go_num, ?_, by omega, by rw [List.length_set]; exact HL2.out, HST.out.1, HP.out, grownBy_trans hgr HST.out.2⟩
        exact congrArg (Value.int .i64) (by omega)
      case measure => simp [intOf]

/-- The text of a date, as numbers. -/
def text (y m d : Nat) : List Nat := [48 + y / 10 / 10 / 10 % 10, 48 + y / 10 / 10 % 10, 48 + y / 10 % 10, 48 + y % 10, 45, 48 + m / 10 % 10, 48 + m % 10, 45, 48 + d / 10 % 10, 48 + d % 10]

def blank : List Nat := [48, 48, 48, 48, 45, 48, 48, 45, 48, 48]

theorem putN_text (y m d : Nat) : putN (putN (putN blank 0 y 4) 5 m 2) 8 d 2 = text y m d := rfl
theorem length_putN (bs : List Nat) (off n len : Nat) : (putN bs off n len).length = bs.length := by
  induction len generalizing bs n with
  | zero => rfl
  | succ len ih => rw [putN, ih, List.length_set]

set_option maxRecDepth 20000 in
set_option maxHeartbeats 1000000 in
theorem format_at (n : Int) (y m d : Nat) (w : World) (h : civilOf n y m d) :
    Calls Try.prog 23 #[.int .i64 n] w fun e w' => e = .returned (.tuple #[.string (strOf (text y m d)), .int .i64 0]) ∧ Below w.heap.size w w' := by
  have hok := (Cal.ok_iff _ _ _).1 h.1
  have hlen := Cal.len_bd (y : Int) (m : Int)
  have hy : y ≤ 9999 := by omega
  have hm : m ≤ 12 := by omega
  have hd : d ≤ 31 := by omega
  have HC := Lib.hid h
  clear h hok hlen
  have kc := fun (w : World) (C : Array Value) (n c : Nat) => Lib.run_convert_bytes_const (P := Try.prog) w 33 5 C n c Try.underlying33 Try.underlying5
  go_enter Try.func23, Try.ntmps23
  go_wp2_with fail
  refine (civil_at _ _ _ _ _ HC.out).mono ?_
  rintro e w1 ⟨rfl, rfl⟩
  go_wp2_with fail
  have hb0 : (w.alloc (.cells #[.int .u8 48, .int .u8 48, .int .u8 48, .int .u8 48, .int .u8 45, .int .u8 48, .int .u8 48, .int .u8 45, .int .u8 48, .int .u8 48] 5 (10, 11))).heap[w.heap.size]? = some (.cells (u8s blank).toArray 5 (10, 11)) := heap_alloc_new w _
  have hbel0 : Below w.heap.size w (w.alloc (.cells #[.int .u8 48, .int .u8 48, .int .u8 48, .int .u8 48, .int .u8 45, .int .u8 48, .int .u8 48, .int .u8 45, .int .u8 48, .int .u8 48] 5 (10, 11))) := (Below.refl _ _).alloc (Nat.le_refl _) _
  generalize (w.alloc (.cells #[.int .u8 48, .int .u8 48, .int .u8 48, .int .u8 48, .int .u8 45, .int .u8 48, .int .u8 48, .int .u8 45, .int .u8 48, .int .u8 48] 5 (10, 11))) = wa at hb0 hbel0 ⊢
  refine (put_any _ _ _ _ blank y _ hb0 rfl (by omega) (by omega)).mono ?_
  rintro e w1 ⟨rfl, hb1, hg1⟩
  have hbel1 : Below w.heap.size w w1 := hbel0.grown hg1 hbel0.size (fun k h => by cases h; exact Nat.le_refl _)
  clear hb0 hg1 hbel0
  have HB1 := Lib.hid hb1
  clear hb1
  go_wp2_with fail
  refine (put_any _ _ _ _ _ m _ HB1.out (length_putN _ _ _ _) (by omega) (by omega)).mono ?_
  rintro e w2 ⟨rfl, hb2, hg2⟩
  have hbel2 : Below w.heap.size w w2 := hbel1.grown hg2 hbel1.size (fun k h => by cases h; exact Nat.le_refl _)
  clear HB1 hg2 hbel1
  have HB2 := Lib.hid hb2
  clear hb2
  go_wp2_with fail
  refine (put_any _ _ _ _ _ d _ HB2.out (by rw [length_putN, length_putN]; rfl) (by omega) (by omega)).mono ?_
  rintro e w3 ⟨rfl, hb3, hg3⟩
  have hbel3 : Below w.heap.size w w3 := hbel2.grown hg3 hbel2.size (fun k h => by cases h; exact Nat.le_refl _)
  rw [putN_text] at hb3
  have hcv := run_string_cells (P := Try.prog) w3 33 9 5 Try.underlying33 Try.underlying5 Try.underlying9 w.heap.size 10 10 (text y m d) rfl (fun j _ => by rw [cell_of_row w3 w.heap.size j _ 5 (10, 11) hb3, List.getElem?_toArray])
  clear HB2 hg3 hbel2 hb3 kc
  obtain ⟨tx, htx⟩ : ∃ t, t = strOf (text y m d) := ⟨_, rfl⟩
  rw [← htx] at hcv
  have HTX := Lib.hid htx
  clear htx
  go_wp2_with fail
  go_ret2
  exact ⟨by rw [← HTX.out]; rfl, hbel3⟩

set_option maxRecDepth 20000 in
set_option maxHeartbeats 1000000 in
theorem format_no (n : Int) (w : World) (h : n < -719162 ∨ 2932896 < n) :
    Calls Try.prog 23 #[.int .i64 n] w fun e w' => e = .returned (.tuple #[.string ⟨#[]⟩, .int .i64 4]) ∧ w = w' := by
  have HN := Lib.hid h
  clear h
  go_enter Try.func23, Try.ntmps23
  go_wp2_with fail
  refine (civil_no _ _ HN.out).mono ?_
  rintro e w1 ⟨rfl, rfl⟩
  go_wp2_with fail
  go_ret2
  exact ⟨rfl, rfl⟩

/-- The date of a number, in natural numbers. -/
theorem date_nat (n : Int) (h1 : -719162 ≤ n) (h2 : n ≤ 2932896) : ∃ y m d : Nat, civilOf n y m d := by
  obtain ⟨y, m, d, ok, num⟩ := date_of n h1 h2
  obtain ⟨y1, _, m1, _, d1, _⟩ := (Cal.ok_iff y m d).1 ok
  obtain ⟨y, rfl⟩ := Int.eq_ofNat_of_zero_le (show 0 ≤ y by omega)
  obtain ⟨m, rfl⟩ := Int.eq_ofNat_of_zero_le (show 0 ≤ m by omega)
  obtain ⟨d, rfl⟩ := Int.eq_ofNat_of_zero_le (show 0 ≤ d by omega)
  exact ⟨y, m, d, ok, num⟩

theorem size_text (y m d : Nat) : (strOf (text y m d)).size = 10 := rfl

set_option maxRecDepth 20000 in
set_option maxHeartbeats 400000 in
theorem law_range (n : Int) (w : World) (_ : (Lit.int .i64 n).wf = true) : Calls Try.prog 10 #[.int .i64 n] w fun e w' => e = .returned (.bool true) ∧ Below w.heap.size w w' := by
  by_cases h : -719162 ≤ n ∧ n ≤ 2932896
  · obtain ⟨h1, h2⟩ := h
    obtain ⟨y, m, d, hc⟩ := date_nat n h1 h2
    have HC := Lib.hid hc
    clear hc
    go_enter Try.func10, Try.ntmps10
    go_wp2_with fail
    refine (format_at _ _ _ _ _ HC.out).mono ?_
    rintro e w1 ⟨rfl, hb⟩
    have hsz := size_text y m d
    generalize strOf (text y m d) = tx at hsz ⊢
    have hsz' : ((tx.size : Int) == 10) = true := by rw [beq_iff_eq]; omega
    clear hsz
    go_wp2_with fail
    refine (awake_any _).mono ?_
    rintro e w2 ⟨rfl, rfl⟩
    go_wp2_with fail
    go_ret
    exact ⟨rfl, hb⟩
  · have h' : n < -719162 ∨ 2932896 < n := by omega
    clear h
    rcases h' with h' | h'
    all_goals
      go_enter Try.func10, Try.ntmps10
      go_wp2_with fail
      refine (format_no _ _ (by omega)).mono ?_
      rintro e w1 ⟨rfl, rfl⟩
      go_wp2_with fail
      refine (civil_no _ _ (by omega)).mono ?_
      rintro e w1 ⟨rfl, rfl⟩
      go_wp2_with fail
      refine (awake_any _).mono ?_
      rintro e w1 ⟨rfl, rfl⟩
      go_wp2_with fail
      go_ret
      exact ⟨rfl, Below.refl _ _⟩
end Go.Proofs.Ytjkbhckidocclaa
