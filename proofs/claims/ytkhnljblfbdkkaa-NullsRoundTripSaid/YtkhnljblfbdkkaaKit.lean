/- Small laws that serve every text of this seat: no program in sight. -/
import Derived.WalkKit
namespace Go.Proofs.Ytkhnljblfbdkkaa
open Go.RowKit

/-- The cells of a row of bytes. -/
def u8s (ns : List Nat) : List Value := ns.map fun x : Nat => Value.int .u8 (x : Int)

/-- The string of these bytes. -/
def strOf (ns : List Nat) : ByteArray := ⟨(ns.map UInt8.ofNat).toArray⟩

theorem foldl_push (ns : List Int) : ∀ s : ByteArray, (ns.foldl (fun r n => r.push (UInt8.ofNat n.toNat)) s).data = s.data ++ (ns.map fun n => UInt8.ofNat n.toNat).toArray := by
  induction ns with
  | nil => intro s; simp
  | cons a ns ih => intro s; rw [List.foldl_cons, ih]; simp [ByteArray.push]

/-- 'string(b)', b a row of the call's own. -/
theorem run_string_own {P : Program} (w : World) (base src dst e : TypeId) (hs : P.underlying src = some (.slice e)) (he : P.underlying e = some (.int .u8)) (hd : P.underlying dst = some .string)
    (g n cap : Nat) (ns : List Nat) (hown : w.ownsRow base e 1 (.slice (some ⟨g, 0, none⟩) n cap) n (u8s ns)) :
    (convert src dst (.slice (some ⟨g, 0, none⟩) n cap)).run P w = .ok (.string (strOf ns)) w := by
  rw [run_convert_bytes_string w src dst e _ n cap hs he hd]
  have hlen : (u8s ns).length = n := by simpa using hown.1
  have hload : (loadCells ⟨g, 0, none⟩ n).run P w = .ok ((ns.map fun x : Nat => (x : Int)).map (Value.int .u8)).toArray w := by
    have h := run_loadCells_list (P := P) (w := w) ⟨g, 0, none⟩ (u8s ns) (fun j v hj => by
      have hjl := (List.getElem?_eq_some_iff.1 hj).1
      have := hown.cellAt j (by omega)
      rw [Addr.add_lit, Nat.zero_add, this]; exact hj)
    rw [hlen] at h
    rw [h]
    simp [u8s, List.map_map, Function.comp_def]
  rw [run_bytesToString w _ n cap _ hload]
  have e1 : (List.foldl (fun r n => r.push (UInt8.ofNat n.toNat)) ByteArray.empty (ns.map fun x : Nat => (x : Int))) = strOf ns := by
    have := foldl_push (ns.map fun x : Nat => (x : Int)) ByteArray.empty
    generalize List.foldl (fun (r : ByteArray) (n : Int) => r.push (UInt8.ofNat n.toNat)) ByteArray.empty (ns.map fun x : Nat => (x : Int)) = s at this ⊢
    cases s with
    | mk d => simp at this; subst this; simp [strOf, Function.comp_def]
  rw [e1]

theorem u8s_get (ns : List Nat) (j : Nat) (h : j < ns.length) : (u8s ns)[j]? = some (.int .u8 ((ns.getD j 0 : Nat) : Int)) := by
  simp [u8s, List.getD_eq_getElem?_getD, List.getElem?_eq_getElem h]
theorem u8s_set (ns : List Nat) (j x : Nat) : (u8s ns).set j (.int .u8 (x : Int)) = u8s (ns.set j x) := by
  simp [u8s, List.map_set]
theorem u8s_zero (n : Nat) : (madeCells #[Value.int .u8 0] n).toList = u8s (List.replicate n 0) := by
  simp [u8s, toList_madeCells_one]

end Go.Proofs.Ytkhnljblfbdkkaa
