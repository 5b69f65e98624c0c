/- The file laws' arguments, opened. -/
import Derived.Test.YtjmicdehofjmgaaFil2
import Derived.Test.YtjmicdehofjmgaaOpn
namespace Go.Proofs.Ytjmicdehofjmgaa
open Go.ChangeShapes Go.WideShapes Go.ChangeAt Go.RowKit Go.Deep
set_option linter.unusedVariables false

instance : Inhabited Op := ⟨⟨0, ⟨#[]⟩, 0, 0, false⟩⟩
section
variable {H : Type} {enc : TypeId × Value → H} {W : World} {base : Nat} {v : Value} {d : DataW H} {p : List MemPlace}
theorem open_fops (hv : Value.okWide Try.prog W .any base 22 v) (h : DataW.Trod enc Try.prog W 0 (fun _ => true) true 22 v d p) : ∃ xs, Row opCells W v xs ∧ ∀ o ∈ xs, OpOk o := by
  obtain ⟨a0, len, cap, rfl⟩ := okWide_slice Try.underlying22 hv
  obtain ⟨fuel, hf⟩ := h
  rcases open_slice_fields Try.underlying22 Try.underlying29 (by kernel_rfl) (by kernel_rfl) hf with hcs | ⟨a, len', cap', hcs, hl, hm, hi⟩
  · simp [Value.cells] at hcs
    obtain ⟨rfl, rfl, rfl⟩ := hcs
    exact ⟨[], ⟨none, 0, 0, rfl, rfl, by omega, by simp [maxLen], Rd.nil _ _⟩, by simp⟩
  · simp [Value.cells] at hcs
    obtain ⟨rfl, rfl, rfl⟩ := hcs
    refine row_of opC_len (by decide) hl hm fun i hil => ?_
    obtain ⟨m, hj⟩ := hi i hil
    obtain ⟨v0, y0, c0, t0⟩ := hj 0 _ rfl
    obtain ⟨v1, y1, c1, t1⟩ := hj 1 _ rfl
    obtain ⟨v2, y2, c2, t2⟩ := hj 2 _ rfl
    obtain ⟨v3, y3, c3, t3⟩ := hj 3 _ rfl
    obtain ⟨v4, y4, c4, t4⟩ := hj 4 _ rfl
    obtain ⟨x0, rfl, b0⟩ := part_i64 Try.underlying3 t0
    obtain ⟨x1, rfl, b1⟩ := part_str Try.underlying9 t1
    obtain ⟨x2, rfl, b2⟩ := part_i64 Try.underlying3 t2
    obtain ⟨x3, rfl, b3⟩ := part_i64 Try.underlying3 t3
    obtain ⟨x4, rfl⟩ := part_bool Try.underlying4 t4
    refine ⟨⟨x0, x1, x2, x3, x4⟩, ⟨b0.1, b0.2, b2.1, b2.2, b3.1, b3.2, b1⟩, fun j u hu => ?_⟩
    rcases j with _ | _ | _ | _ | _ | j
    · injection hu with hu; subst hu; exact c0
    · injection hu with hu; subst hu; exact c1
    · injection hu with hu; subst hu; exact c2
    · injection hu with hu; subst hu; exact c3
    · injection hu with hu; subst hu; exact c4
    · simp [opCells] at hu
theorem open_fop (hv : Value.okWide Try.prog W .any base 29 v) (h : DataW.Trod enc Try.prog W 0 (fun _ => true) true 29 v d p) : ∃ o : Op, v = .agg #[.int .i64 o.kind, .string o.s, .int .i64 o.n, .int .i64 o.m, .bool o.ren] ∧ OpOk o := by
  obtain ⟨cs, rfl, hl, m, hj⟩ := open_struct Try.underlying29 (by kernel_rfl) (by kernel_rfl) hv h
  obtain ⟨a0, a1, a2, a3, a4, rfl⟩ := list5 hl
  obtain ⟨v0, y0, c0, t0⟩ := hj 0 _ rfl
  obtain ⟨v1, y1, c1, t1⟩ := hj 1 _ rfl
  obtain ⟨v2, y2, c2, t2⟩ := hj 2 _ rfl
  obtain ⟨v3, y3, c3, t3⟩ := hj 3 _ rfl
  obtain ⟨v4, y4, c4, t4⟩ := hj 4 _ rfl
  injection c0 with c0; injection c1 with c1; injection c2 with c2; injection c3 with c3; injection c4 with c4
  subst c0 c1 c2 c3 c4
  obtain ⟨x0, rfl, b0⟩ := part_i64 Try.underlying3 t0
  obtain ⟨x1, rfl, b1⟩ := part_str Try.underlying9 t1
  obtain ⟨x2, rfl, b2⟩ := part_i64 Try.underlying3 t2
  obtain ⟨x3, rfl, b3⟩ := part_i64 Try.underlying3 t3
  obtain ⟨x4, rfl⟩ := part_bool Try.underlying4 t4
  exact ⟨⟨x0, x1, x2, x3, x4⟩, rfl, ⟨b0.1, b0.2, b2.1, b2.2, b3.1, b3.2, b1⟩⟩
theorem open_s2 (hv : Value.okWide Try.prog W .any base 43 v) (h : DataW.Trod enc Try.prog W 0 (fun _ => true) true 43 v d p) : ∃ a b : ByteArray, v = .agg #[.string a, .string b] ∧ a.size ≤ 9223372036854775807 ∧ b.size ≤ 9223372036854775807 := by
  obtain ⟨cs, rfl, hl, m, hj⟩ := open_array Try.underlying43 (by kernel_rfl) (by kernel_rfl) hv h
  obtain ⟨a0, a1, rfl⟩ := list2 hl
  obtain ⟨v0, y0, c0, t0⟩ := hj 0 (by decide)
  obtain ⟨v1, y1, c1, t1⟩ := hj 1 (by decide)
  injection c0 with c0; injection c1 with c1
  subst c0 c1
  obtain ⟨x0, rfl, b0⟩ := part_str Try.underlying9 t0
  obtain ⟨x1, rfl, b1⟩ := part_str Try.underlying9 t1
  exact ⟨x0, x1, rfl, b0, b1⟩
theorem open_s3 (hv : Value.okWide Try.prog W .any base 48 v) (h : DataW.Trod enc Try.prog W 0 (fun _ => true) true 48 v d p) : ∃ a b c : ByteArray, v = .agg #[.string a, .string b, .string c] ∧ a.size ≤ 9223372036854775807 ∧ b.size ≤ 9223372036854775807 ∧ c.size ≤ 9223372036854775807 := by
  obtain ⟨cs, rfl, hl, m, hj⟩ := open_array Try.underlying48 (by kernel_rfl) (by kernel_rfl) hv h
  obtain ⟨a0, a1, a2, rfl⟩ := list3 hl
  obtain ⟨v0, y0, c0, t0⟩ := hj 0 (by decide)
  obtain ⟨v1, y1, c1, t1⟩ := hj 1 (by decide)
  obtain ⟨v2, y2, c2, t2⟩ := hj 2 (by decide)
  injection c0 with c0; injection c1 with c1; injection c2 with c2
  subst c0 c1 c2
  obtain ⟨x0, rfl, b0⟩ := part_str Try.underlying9 t0
  obtain ⟨x1, rfl, b1⟩ := part_str Try.underlying9 t1
  obtain ⟨x2, rfl, b2⟩ := part_str Try.underlying9 t2
  exact ⟨x0, x1, x2, rfl, b0, b1, b2⟩
theorem open_i2 (hv : Value.okWide Try.prog W .any base 49 v) (h : DataW.Trod enc Try.prog W 0 (fun _ => true) true 49 v d p) : ∃ a b : Int, v = .agg #[.int .i64 a, .int .i64 b] ∧ (-9223372036854775808 ≤ a ∧ a ≤ 9223372036854775807) ∧ (-9223372036854775808 ≤ b ∧ b ≤ 9223372036854775807) := by
  obtain ⟨cs, rfl, hl, m, hj⟩ := open_array Try.underlying49 (by kernel_rfl) (by kernel_rfl) hv h
  obtain ⟨a0, a1, rfl⟩ := list2 hl
  obtain ⟨v0, y0, c0, t0⟩ := hj 0 (by decide)
  obtain ⟨v1, y1, c1, t1⟩ := hj 1 (by decide)
  injection c0 with c0; injection c1 with c1
  subst c0 c1
  obtain ⟨x0, rfl, b0⟩ := part_i64 Try.underlying3 t0
  obtain ⟨x1, rfl, b1⟩ := part_i64 Try.underlying3 t1
  exact ⟨x0, x1, rfl, b0, b1⟩
theorem open_i3 (hv : Value.okWide Try.prog W .any base 44 v) (h : DataW.Trod enc Try.prog W 0 (fun _ => true) true 44 v d p) : ∃ a b c : Int, v = .agg #[.int .i64 a, .int .i64 b, .int .i64 c] ∧ (-9223372036854775808 ≤ a ∧ a ≤ 9223372036854775807) ∧ (-9223372036854775808 ≤ b ∧ b ≤ 9223372036854775807) ∧ (-9223372036854775808 ≤ c ∧ c ≤ 9223372036854775807) := by
  obtain ⟨cs, rfl, hl, m, hj⟩ := open_array Try.underlying44 (by kernel_rfl) (by kernel_rfl) hv h
  obtain ⟨a0, a1, a2, rfl⟩ := list3 hl
  obtain ⟨v0, y0, c0, t0⟩ := hj 0 (by decide)
  obtain ⟨v1, y1, c1, t1⟩ := hj 1 (by decide)
  obtain ⟨v2, y2, c2, t2⟩ := hj 2 (by decide)
  injection c0 with c0; injection c1 with c1; injection c2 with c2
  subst c0 c1 c2
  obtain ⟨x0, rfl, b0⟩ := part_i64 Try.underlying3 t0
  obtain ⟨x1, rfl, b1⟩ := part_i64 Try.underlying3 t1
  obtain ⟨x2, rfl, b2⟩ := part_i64 Try.underlying3 t2
  exact ⟨x0, x1, x2, rfl, b0, b1, b2⟩
end
end Go.Proofs.Ytjmicdehofjmgaa
