/- Arguments of layer 9 opened: labels, calls, rows of calls. -/
import Derived.Test.YtccjbmmhdbainaaIdxA
import Derived.Test.YtccjbmmhdbainaaOpn
namespace Go.Proofs.Ytccjbmmhdbainaa
open Go.ChangeShapes Go.WideShapes Go.ChangeAt Go.RowKit Go.Deep
set_option linter.unusedVariables false
set_option maxRecDepth 100000
set_option linter.unusedSectionVars false
set_option linter.unusedSimpArgs false

/-- A call: the labels as they are handed in, and what they are. -/
structure IOp where
  kind : Int
  key : ByteArray
  v : Value
  ls : List Lab
def opV (o : IOp) : Value := .agg #[.int .i64 o.kind, .string o.key, o.v]
def opC (o : IOp) : List Value := [.int .i64 o.kind, .string o.key, o.v]
theorem opC_len (o : IOp) : (opC o).length = 3 := rfl
structure IOpOk (w : World) (o : IOp) : Prop where
  k1 : -9223372036854775808 ≤ o.kind
  k2 : o.kind ≤ 9223372036854775807
  key : okS o.key
  row : Row labC w o.v o.ls
  labs : ∀ y ∈ o.ls, okL y
instance : Inhabited IOp := ⟨⟨0, ⟨#[]⟩, .slice none 0 0, []⟩⟩
theorem IOpOk.cm {w w' : World} {o : IOp} (h : IOpOk w o) (k : Cm w w') : IOpOk w' o := ⟨h.k1, h.k2, h.key, k.row h.row, h.labs⟩
theorem IOpOk.ext {w w' : World} {o : IOp} (h : IOpOk w o) (k : Ext w w') : IOpOk w' o := h.cm (Cm.of_ext k)
section
variable {H : Type} {enc : TypeId × Value → H} {W : World} {base : Nat} {v : Value} {d : DataW H} {p : List MemPlace}
theorem part_labs {n : Nat} {y : DataW H × List MemPlace} (h : DataW.trod enc Try.prog W 0 (fun _ => true) true n 25 [v] = some y) : ∃ xs, Row labC W v xs ∧ ∀ x ∈ xs, okL x := by
  rcases open_slice_fields Try.underlying25 Try.underlying69 (by kernel_rfl) (by kernel_rfl) h with hcs | ⟨a, len, cap, hcs, hl, hm, hi⟩
  · injection hcs with hcs
    subst hcs
    exact ⟨[], row_nil _, by simp⟩
  · injection hcs with hcs
    subst hcs
    refine row_of labC_len (by decide) hl hm fun i hil => ?_
    obtain ⟨m, hf⟩ := hi i hil
    obtain ⟨v0, y0, c0, t0⟩ := hf 0 _ rfl
    obtain ⟨v1, y1, c1, t1⟩ := hf 1 _ rfl
    obtain ⟨x0, rfl, b0⟩ := part_str Try.underlying9 t0
    obtain ⟨x1, rfl, b1⟩ := part_str Try.underlying9 t1
    refine ⟨(x0, x1), ⟨b0, b1⟩, fun j u hu => ?_⟩
    have hj : j < 2 := by
      have := (List.getElem?_eq_some_iff.1 hu).1
      simpa [labC] using this
    have hs : j = 0 ∨ j = 1 := by omega
    rcases hs with rfl | rfl
    · exact c0.trans (by simpa [labC] using hu)
    · exact c1.trans (by simpa [labC] using hu)
theorem open_iops (hv : Value.okWide Try.prog W .any base 51 v) (h : DataW.Trod enc Try.prog W 0 (fun _ => true) true 51 v d p) : ∃ xs, Row opC W v xs ∧ ∀ x ∈ xs, IOpOk W x := by
  obtain ⟨a0, len, cap, rfl⟩ := okWide_slice Try.underlying51 hv
  obtain ⟨fuel, hf⟩ := h
  rcases open_slice_fields Try.underlying51 Try.underlying80 (by kernel_rfl) (by kernel_rfl) hf with hcs | ⟨a, len', cap', hcs, hl, hm, hi⟩
  · simp [Value.cells] at hcs
    obtain ⟨rfl, rfl, rfl⟩ := hcs
    exact ⟨[], ⟨none, 0, 0, rfl, rfl, by omega, by simp [maxLen], Rd.nil _ _⟩, by simp⟩
  · simp [Value.cells] at hcs
    obtain ⟨rfl, rfl, rfl⟩ := hcs
    refine row_of opC_len (by decide) hl hm fun i hil => ?_
    obtain ⟨m, hf⟩ := hi i hil
    obtain ⟨v0, y0, c0, t0⟩ := hf 0 _ rfl
    obtain ⟨v1, y1, c1, t1⟩ := hf 1 _ rfl
    obtain ⟨v2, y2, c2, t2⟩ := hf 2 _ rfl
    obtain ⟨x0, rfl, b0⟩ := part_i64 Try.underlying3 t0
    obtain ⟨x1, rfl, b1⟩ := part_str Try.underlying9 t1
    obtain ⟨xs, b2, b3⟩ := part_labs t2
    refine ⟨⟨x0, x1, v2, xs⟩, ⟨b0.1, b0.2, b1, b2, b3⟩, fun j u hu => ?_⟩
    have hj : j < 3 := by
      have := (List.getElem?_eq_some_iff.1 hu).1
      simpa [opC] using this
    have hs : j = 0 ∨ j = 1 ∨ j = 2 := by omega
    rcases hs with rfl | rfl | rfl
    · exact c0.trans (by simpa [opC] using hu)
    · exact c1.trans (by simpa [opC] using hu)
    · exact c2.trans (by simpa [opC] using hu)
theorem open_iop (hv : Value.okWide Try.prog W .any base 80 v) (h : DataW.Trod enc Try.prog W 0 (fun _ => true) true 80 v d p) : ∃ o : IOp, v = opV o ∧ IOpOk W o := by
  obtain ⟨cs, rfl, hl, m, hj⟩ := open_struct Try.underlying80 (by kernel_rfl) (by kernel_rfl) hv h
  obtain ⟨a0, a1, a2, rfl⟩ := list3 hl
  obtain ⟨v0, y0, c0, t0⟩ := hj 0 _ rfl
  obtain ⟨v1, y1, c1, t1⟩ := hj 1 _ rfl
  obtain ⟨v2, y2, c2, t2⟩ := hj 2 _ rfl
  injection c0 with c0; injection c1 with c1; injection c2 with c2
  subst c0 c1 c2
  obtain ⟨x0, rfl, b0⟩ := part_i64 Try.underlying3 t0
  obtain ⟨x1, rfl, b1⟩ := part_str Try.underlying9 t1
  obtain ⟨xs, b2, b3⟩ := part_labs t2
  exact ⟨⟨x0, x1, a2, xs⟩, rfl, ⟨b0.1, b0.2, b1, b2, b3⟩⟩
theorem open_lab (hv : Value.okWide Try.prog W .any base 69 v) (h : DataW.Trod enc Try.prog W 0 (fun _ => true) true 69 v d p) : ∃ y : Lab, v = labV y ∧ okL y := by
  obtain ⟨cs, rfl, hl, m, hj⟩ := open_struct Try.underlying69 (by kernel_rfl) (by kernel_rfl) hv h
  obtain ⟨a0, a1, rfl⟩ := list2 hl
  obtain ⟨v0, y0, c0, t0⟩ := hj 0 _ rfl
  obtain ⟨v1, y1, c1, t1⟩ := hj 1 _ rfl
  injection c0 with c0; injection c1 with c1
  subst c0 c1
  obtain ⟨x0, rfl, b0⟩ := part_str Try.underlying9 t0
  obtain ⟨x1, rfl, b1⟩ := part_str Try.underlying9 t1
  exact ⟨(x0, x1), rfl, b0, b1⟩
end
end Go.Proofs.Ytccjbmmhdbainaa
