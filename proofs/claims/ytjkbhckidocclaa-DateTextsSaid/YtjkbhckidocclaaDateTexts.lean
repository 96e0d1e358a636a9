/- DateTexts: whatever the input, the law returns true, and each argument reads afterwards as it read before. No condition but the form's own reach. -/
import Derived.Test.YtjkbhckidocclaaRows
import Derived.Test.YtjkbhckidocclaaTexts
import Derived.ProofKit
import Derived.OpenShut
import Derived.ShutString
import Derived.SizedLaws
import Derived.Deep.Slices
namespace Go.Proofs.Ytjkbhckidocclaa.dateTexts
open Go.ChangeShapes Go.WideShapes Go.ChangeAt Go.RowKit
open Go.ChangeMaps (open_string shut_string)
set_option linter.unusedVariables false
set_option linter.unusedSimpArgs false

theorem own : ownKnob Try.prog.godebug = none := by kernel_rfl
theorem laidOut : laidOutB Try.prog = true := by kernel_rfl

theorem cells5 : Try.prog.cellsOf 5 = 1 := by kernel_rfl
theorem bytes5 : Try.prog.bytesOf 5 = 1 := by kernel_rfl

set_option maxRecDepth 100000 in
theorem lifted (os : Os) (started : os.Started) (H : Type) (enc : TypeId × Value → H) :
    ReturnsInHanded {} Try.checked os 9 .any (Rows.dateTextsSpec.pre6 enc Try.prog Try.f9 Rows.dateTextsRow.domain false) (Rows.dateTextsSpec.post enc Try.prog Try.f9 false true false false) := by
  refine returnsInHanded_of_change_sized (C := Try.checked) own started (by kernel_rfl) Try.func9
    (ChangeSpec.witness6 (enc := enc) (C := Try.checked) false ⟨#[], #[.string ByteArray.empty, .slice none 0 0], []⟩ 8 (by kernel_rfl) (by kernel_rfl) (by kernel_rfl) (by kernel_rfl)) ?_
  intro W base args ds gs before hval0 hW hcnd hsz0 _
  have hsz : (DataW.weightsEach Try.prog (Try.f9.params.toList ++ Rows.dateTextsSpec.plain.varTypes Try.prog) (ds ++ gs)).all (· ≤ reachBytes) = true := hsz0
  clear hsz0
  have hval : ∀ (j : Nat) t v, Try.f9.params[j]? = some t → args[j]? = some v → Value.okWide Try.prog W .any base t v := hval0
  have hW' := hW
  obtain ⟨p, q, hA0, hV, rfl, hfz, hnd⟩ := hW
  have hA : DataW.TrodAll enc Try.prog W 0 (fun _ => true) true Try.f9.params.toList args.toList ds p := hA0
  rw [Try.params9] at hA hval hsz
  obtain ⟨v0, vs0, d0, ds0, p0, q0, hargs, rfl, rfl, h0, r0⟩ := trodAll_cons hA
  obtain ⟨v1, vs1, d1, ds1, p1, q1, rfl, rfl, rfl, h1, r1⟩ := trodAll_cons r0
  obtain ⟨rfl, rfl, rfl⟩ := trodAll_nil r1
  obtain rfl : args = #[v0, v1] := by cases args; simp_all
  obtain ⟨rfl, rfl⟩ := trodVars_none hV
  have hltall : ∀ x ∈ p0 ++ (p1 ++ []), x.block < W.heap.size := fun x hx => by simpa using hW'.lt x (by simpa using hx)
  obtain ⟨a0, rfl, rfl, rfl, w0⟩ := open_string Try.underlying9 (hval 0 9 v0 rfl rfl) h0
  have s0 : a0.size ≤ 140737488351232 := by
    have := sized_string hsz (j := 0) (t := 9) rfl rfl
    simpa [reachBytes] using this
  obtain ⟨a1, n1, c1, rfl⟩ := okWide_slice Try.underlying33 (hval 1 33 v1 rfl rfl)
  have k1 := h1
  have lt1 : ∀ x ∈ p1, x.block < W.heap.size := fun x hx => hltall x (by simp [hx])
  obtain ⟨l1, i1, f1⟩ : ∃ l : List Nat, NatsIn .u8 W a1 n1 l ∧ ∀ x ∈ l, x < 256 := by
    obtain ⟨fuel, hf⟩ := h1
    rcases Go.Deep.open_slice1 Try.underlying33 cells5 hf with ⟨hcs, _⟩ | ⟨a, len, cap, m, fu, V, D, Pl, hcs, _, hl, hm, hmm, hx, hcell⟩
    · simp [Value.cells] at hcs
      obtain ⟨rfl, rfl, rfl⟩ := hcs
      exact ⟨[], ⟨rfl, by omega, fun t ht => absurd ht (by omega)⟩, fun x hx => by cases hx⟩
    · simp [Value.cells] at hcs
      obtain ⟨rfl, rfl, rfl⟩ := hcs
      simp only [if_true] at hmm
      subst hmm
      simp only [Prod.mk.injEq] at hx
      obtain ⟨rfl, rfl⟩ := hx
      have hr := sized_slice hsz (j := 1) (t := 33) (e := 5) rfl rfl Try.underlying33
      rw [bytes5] at hr
      simp only [List.length_map, List.length_range, reachBytes] at hr
      have num : ∀ i, i < n1 → ∃ x : Nat, V i = .int .u8 (x : Int) ∧ x < 256 := by
        intro i hi
        obtain ⟨h1, h2⟩ := hcell i (by omega)
        obtain ⟨y, hy, _, wy⟩ := DataW.trod_int Try.underlying5 h2
        simp at hy
        have hmin : IntKind.u8.min = 0 := rfl
        have hmax : IntKind.u8.max = 255 := rfl
        simp only [Lit.wf, Bool.and_eq_true, decide_eq_true_eq] at wy
        exact ⟨y.toNat, by rw [hy, Int.toNat_of_nonneg (by omega)], by omega⟩
      refine ⟨(List.range n1).map fun i => (intOf (V i)).toNat, ⟨by simp, by omega, fun t ht => ?_⟩, ?_⟩
      · obtain ⟨h1, h2⟩ := hcell t (by omega)
        obtain ⟨b, off, spot⟩ := a
        have hspot : spot = none := by simpa [Addr.add] using World.cell?_spot (hcell 0 (by omega)).1
        subst hspot
        refine ⟨b, off, rfl, lt1 (.cell b (off + t)) (List.mem_append_left _ (MemPlace.mem_row.2 ⟨t, by omega, by simp⟩)), ?_⟩
        rw [Addr.add_lit] at h1
        rw [h1]
        obtain ⟨x, hx, _⟩ := num t ht
        simp [List.getD_eq_getElem?_getD, ht, hx, intOf]
      · intro x hx
        obtain ⟨i, hi, rfl⟩ := List.mem_map.1 hx
        obtain ⟨y, hy, hlt⟩ := num i (List.mem_range.1 hi)
        rw [hy]
        simpa [intOf] using hlt
  clear hA0 hval0
  refine (law_texts a0 a1 n1 c1 l1 W s0 i1 f1).mono fun e W' ⟨he, bel⟩ => ?_
  subst he
  exact ⟨_, rfl, _, _, _, [], _, [], hW', trodAll_mk1 (shut_bool Try.underlying4 _), (trodAll_cons_mk (shut_string Try.underlying9 w0) (trodAll_cons_mk (Below.trod laidOut (by kernel_rfl) (of_decide_eq_true (by kernel_rfl)) k1 bel lt1) trodAll_mk0)), rfl, bel.frame _, fun h => by cases h⟩

theorem proved : Rows.DateTextsSaid :=
  OpenClaim.holds_of_wide 9 Try.f9 rfl rfl rfl rfl rfl rfl rfl ⟨rfl, rfl, rfl, rfl, rfl⟩ rfl rfl rfl rfl rfl (by kernel_rfl) Try.func9 (by kernel_rfl)
    (of_decide_eq_true (by kernel_rfl)) (by unfold Func.isWrapper; first | (rw [if_pos (by decide +kernel)]; kernel_rfl) | (rw [if_neg (by decide +kernel)]; exact ⟨rfl, rfl⟩))
    (fun os started H enc _ => lifted os started H enc)

#print axioms proved
end Go.Proofs.Ytjkbhckidocclaa.dateTexts
