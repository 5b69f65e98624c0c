/- A script of puts, opened. -/
import Derived.Test.YtehkalncofbbhaaBitB
import Derived.Test.YtehkalncofbbhaaLift
import Derived.Deep.SlicePairs
namespace Go.Proofs.Ytehkalncofbbhaa
open Go.RowKit Bit Go.ChangeShapes Go.WideShapes Go.ChangeAt
set_option linter.unusedVariables false

theorem open_ops {H : Type} {enc : TypeId × Value → H} {W : World} {base : Nat} {v : Value} {d : DataW H} {p : List MemPlace}
    (hv : Value.okWide Try.prog W .any base 22 v) (h : DataW.Trod enc Try.prog W 0 (fun _ => true) true 22 v d p) : ∃ xs, Row opC W v xs ∧ ∀ o ∈ xs, OpOk o := by
  obtain ⟨a0, len, cap, rfl⟩ := okWide_slice Try.underlying22 hv
  obtain ⟨fuel, hf⟩ := h
  rcases Go.Deep.open_slice_pairs Try.underlying22 Try.underlying30 (by kernel_rfl) rfl rfl (by kernel_rfl) (by kernel_rfl) hf with ⟨hcs, _⟩ | ⟨a, len', cap', m, n, V0, V1, D0, D1, P0, P1, hcs, _, hl, hm, hmm, _, hc⟩
  · simp [Value.cells] at hcs
    obtain ⟨rfl, rfl, rfl⟩ := hcs
    exact ⟨[], ⟨none, 0, 0, rfl, rfl, by omega, by simp [maxLen], Rd.nil _ _⟩, by simp⟩
  · simp [Value.cells] at hcs
    obtain ⟨rfl, rfl, rfl⟩ := hcs
    simp only [if_true] at hmm
    subst hmm
    have key : ∀ i, i < len → ∃ o : Nat × Int, OpOk o ∧ V0 i = .int .u64 (o.1 : Int) ∧ V1 i = .int .i64 o.2 := fun i hi => by
      obtain ⟨_, _, t0, t1⟩ := hc i (by omega)
      obtain ⟨x, hx, _, hwx⟩ := DataW.trod_int Try.underlying28 t0
      obtain ⟨y, hy, _, hwy⟩ := DataW.trod_int Try.underlying3 t1
      have hrx : 0 ≤ x ∧ x ≤ 18446744073709551615 := by simpa [Lit.wf, IntKind.min, IntKind.max, IntKind.signed, IntKind.bits] using hwx
      have hry : -9223372036854775808 ≤ y ∧ y ≤ 9223372036854775807 := by simpa [Lit.wf, IntKind.min, IntKind.max, IntKind.signed, IntKind.bits] using hwy
      refine ⟨(x.toNat, y), ⟨by show x.toNat < _; omega, hry.1, hry.2⟩, ?_, by simpa using hy⟩
      rw [Int.toNat_of_nonneg hrx.1]
      simpa using hx
    obtain ⟨q, hq⟩ := Go.Deep.choose_lt key
    refine ⟨(List.range len).map q, ⟨some a, len, _, rfl, by simp, hl, hm, fun _ => ⟨a, rfl, fun j u hu => ?_⟩⟩, ?_⟩
    · have hj : j = (j / 2) * 2 + j % 2 := by omega
      rw [hj, flat_get opC_len _ _ _ (by omega)] at hu
      by_cases hi : j / 2 < len
      · rw [List.getElem?_map, List.getElem?_range hi] at hu
        obtain ⟨g0, g1, _, _⟩ := hc (j / 2) (by omega)
        obtain ⟨_, e0, e1⟩ := hq (j / 2) hi
        rw [hj]
        rcases Nat.mod_two_eq_zero_or_one j with h0 | h0
        · rw [h0] at hu ⊢
          rw [Nat.add_zero, g0, e0]
          simpa [opC] using hu
        · rw [h0] at hu ⊢
          rw [g1, e1]
          simpa [opC] using hu
      · rw [List.getElem?_map, List.getElem?_eq_none (by simp; omega)] at hu
        simp at hu
    · intro o ho
      obtain ⟨i, hi, rfl⟩ := List.mem_map.1 ho
      exact (hq i (List.mem_range.1 hi)).1
end Go.Proofs.Ytehkalncofbbhaa
