/- Arguments of layer 2 opened: samples, numbers, three ints. -/
import Derived.Test.YtpdebandcmhbcaaDelB
import Derived.Test.YtpdebandcmhbcaaOpn
namespace Go.Proofs.Ytpdebandcmhbcaa
open Go.ChangeShapes Go.WideShapes Go.ChangeAt Go.RowKit Go.Deep
set_option linter.unusedVariables false

section
variable {H : Type} {enc : TypeId × Value → H} {W : World} {base : Nat} {v : Value} {d : DataW H} {p : List MemPlace}
theorem part_u64 {spare : Nat → Bool} {held : Bool} {n b0 : Nat} {P : Program} {t : TypeId} {v : Value} {y : DataW H × List MemPlace} (ht : P.underlying t = some (.int .u64)) (h : DataW.trod enc P W b0 spare held n t [v] = some y) : ∃ x : Nat, v = .int .u64 (x : Int) ∧ x < 18446744073709551616 := by
  obtain ⟨x, hx, _, hw⟩ := DataW.trod_int ht h
  have hr : 0 ≤ x ∧ x ≤ 18446744073709551615 := by simpa [Lit.wf, IntKind.min, IntKind.max, IntKind.signed, IntKind.bits] using hw
  exact ⟨x.toNat, by rw [Int.toNat_of_nonneg hr.1]; simpa using hx, by omega⟩
theorem open_slice_cells {spare : Nat → Bool} {held : Bool} {b0 : Nat} {P : Program} {t e : TypeId} {C fuel : Nat} {cs : List Value} {x : DataW H × List MemPlace} (ht : P.underlying t = some (.slice e)) (hC : P.cellsOf e = C)
    (h : DataW.trod enc P W b0 spare held fuel t cs = some x) :
    (cs = [.slice none 0 0]) ∨
    ∃ (a : Addr) (len cap : Nat), cs = [.slice (some a) len cap] ∧ len ≤ cap ∧ cap ≤ maxLen ∧
      ∀ i, i < len → ∃ (m : Nat) (cs' : List Value) (y : DataW H × List MemPlace), cs'.length = C ∧ DataW.trod enc P W b0 spare held m e cs' = some y ∧ ∀ j, j < C → W.cell? (a.add (i * C + j)) = cs'[j]? := by
  rcases open_slice ht h with h0 | ⟨a, len, cap, m, n, D, Pl, hcs, hb, hl, hm, hmm, hx, hi⟩
  · exact .inl h0.1
  · refine .inr ⟨a, len, cap, hcs, hl, hm, fun i him => ?_⟩
    obtain ⟨cs', hc, ht'⟩ := hi i (by rw [hmm]; split <;> omega)
    rw [hC] at hc
    obtain ⟨_, hcl, hat⟩ := World.cells?_some hc
    refine ⟨_, cs', _, hcl, ht', fun j hj => ?_⟩
    rw [← Go.Deep.add_add, hat j hj]

theorem open_us (hv : Value.okWide Try.prog W .any base 62 v) (h : DataW.Trod enc Try.prog W 0 (fun _ => true) true 62 v d p) : ∃ xs, Row u64C W v xs ∧ ∀ u ∈ xs, u < 18446744073709551616 := by
  obtain ⟨a0, len, cap, rfl⟩ := okWide_slice Try.underlying62 hv
  obtain ⟨fuel, hf⟩ := h
  rcases open_slice_cells (C := 1) Try.underlying62 (by kernel_rfl) hf with hcs | ⟨a, len', cap', hcs, hl, hm, hi⟩
  · simp [Value.cells] at hcs
    obtain ⟨rfl, rfl, rfl⟩ := hcs
    exact ⟨[], ⟨none, 0, 0, rfl, rfl, by omega, by simp [maxLen], Rd.nil _ _⟩, by simp⟩
  · simp [Value.cells] at hcs
    obtain ⟨rfl, rfl, rfl⟩ := hcs
    refine row_of u64C_len (by decide) hl hm fun i hil => ?_
    obtain ⟨m, cs, y, hcl, ht, hat⟩ := hi i hil
    obtain ⟨b0, rfl⟩ : ∃ b, cs = [b] := by
      match cs, hcl with
      | [b], _ => exact ⟨b, rfl⟩
    obtain ⟨x, rfl, hx⟩ := part_u64 Try.underlying22 ht
    refine ⟨x, hx, fun j u hu => ?_⟩
    have hj : j < 1 := by
      have := (List.getElem?_eq_some_iff.1 hu).1
      simpa [u64C] using this
    rw [hat j hj]
    exact hu
theorem open_smps (hv : Value.okWide Try.prog W .any base 23 v) (h : DataW.Trod enc Try.prog W 0 (fun _ => true) true 23 v d p) : ∃ xs, Row smpC W v xs ∧ ∀ x ∈ xs, SmpOk x := by
  obtain ⟨a0, len, cap, rfl⟩ := okWide_slice Try.underlying23 hv
  obtain ⟨fuel, hf⟩ := h
  rcases open_slice_fields Try.underlying23 Try.underlying59 (by kernel_rfl) (by kernel_rfl) hf with hcs | ⟨a, len', cap', hcs, hl, hm, hi⟩
  · simp [Value.cells] at hcs
    obtain ⟨rfl, rfl, rfl⟩ := hcs
    exact ⟨[], ⟨none, 0, 0, rfl, rfl, by omega, by simp [maxLen], Rd.nil _ _⟩, by simp⟩
  · simp [Value.cells] at hcs
    obtain ⟨rfl, rfl, rfl⟩ := hcs
    refine row_of smpC_len (by decide) hl hm fun i hil => ?_
    obtain ⟨m, hf⟩ := hi i hil
    obtain ⟨v0, y0, c0, t0⟩ := hf 0 _ rfl
    obtain ⟨v1, y1, c1, t1⟩ := hf 1 _ rfl
    obtain ⟨x0, rfl, b0⟩ := part_i64 Try.underlying3 t0
    obtain ⟨x1, rfl, b1⟩ := part_i64 Try.underlying3 t1
    refine ⟨(x0, x1), ⟨b0.1, b0.2, b1.1, b1.2⟩, fun j u hu => ?_⟩
    have hj : j < 2 := by
      have := (List.getElem?_eq_some_iff.1 hu).1
      simpa [smpC] using this
    have hs : j = 0 ∨ j = 1 := by omega
    rcases hs with rfl | rfl
    · exact c0.trans (by simpa [smpC] using hu)
    · exact c1.trans (by simpa [smpC] using hu)
theorem open_smp (hv : Value.okWide Try.prog W .any base 59 v) (h : DataW.Trod enc Try.prog W 0 (fun _ => true) true 59 v d p) : ∃ t s : Int, v = .agg #[.int .i64 t, .int .i64 s] ∧ (-9223372036854775808 ≤ t ∧ t ≤ 9223372036854775807) ∧ (-9223372036854775808 ≤ s ∧ s ≤ 9223372036854775807) := by
  obtain ⟨cs, rfl, hl, m, hj⟩ := open_struct Try.underlying59 (by kernel_rfl) (by kernel_rfl) hv h
  obtain ⟨a0, a1, rfl⟩ := list2 hl
  obtain ⟨v0, y0, c0, t0⟩ := hj 0 _ rfl
  obtain ⟨v1, y1, c1, t1⟩ := hj 1 _ rfl
  injection c0 with c0; injection c1 with c1
  subst c0 c1
  obtain ⟨x0, rfl, b0⟩ := part_i64 Try.underlying3 t0
  obtain ⟨x1, rfl, b1⟩ := part_i64 Try.underlying3 t1
  exact ⟨x0, x1, rfl, b0, b1⟩
theorem open_i3 (hv : Value.okWide Try.prog W .any base 57 v) (h : DataW.Trod enc Try.prog W 0 (fun _ => true) true 57 v d p) : ∃ a b c : Int, v = .agg #[.int .i64 a, .int .i64 b, .int .i64 c] ∧ (-9223372036854775808 ≤ a ∧ a ≤ 9223372036854775807) ∧ (-9223372036854775808 ≤ b ∧ b ≤ 9223372036854775807) ∧ (-9223372036854775808 ≤ c ∧ c ≤ 9223372036854775807) := by
  obtain ⟨cs, rfl, hl, m, hj⟩ := open_array Try.underlying57 (by kernel_rfl) (by kernel_rfl) hv h
  obtain ⟨a0, a1, a2, rfl⟩ := list3 hl
  obtain ⟨v0, y0, c0, t0⟩ := hj 0 (by decide)
  obtain ⟨v1, y1, c1, t1⟩ := hj 1 (by decide)
  obtain ⟨v2, y2, c2, t2⟩ := hj 2 (by decide)
  injection c0 with c0; injection c1 with c1; injection c2 with c2
  subst c0 c1 c2
  obtain ⟨x0, rfl, b0⟩ := part_i64 Try.underlying3 t0
  obtain ⟨x1, rfl, b1⟩ := part_i64 Try.underlying3 t1
  obtain ⟨x2, rfl, b2⟩ := part_i64 Try.underlying3 t2
  exact ⟨x0, x1, x2, rfl, b0, b1, b2⟩
end
end Go.Proofs.Ytpdebandcmhbcaa
