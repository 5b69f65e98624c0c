/- Arguments of layer 13 opened: items. -/
import Derived.Test.YtdbboooblbdihaaRspY
import Derived.Test.YtdbboooblbdihaaOpn
namespace Go.Proofs.Ytdbboooblbdihaa
open Go.ChangeShapes Go.WideShapes Go.ChangeAt Go.RowKit Go.Deep
set_option linter.unusedVariables false

section
variable {H : Type} {enc : TypeId × Value → H} {W : World} {base : Nat} {v : Value} {d : DataW H} {p : List MemPlace}
theorem open_items (hv : Value.okWide Try.prog W .any base 45 v) (h : DataW.Trod enc Try.prog W 0 (fun _ => true) true 45 v d p) : ∃ xs, Row itC W v xs ∧ ∀ x ∈ xs, ItmOk x := by
  obtain ⟨a0, len, cap, rfl⟩ := okWide_slice Try.underlying45 hv
  obtain ⟨fuel, hf⟩ := h
  rcases open_slice_fields Try.underlying45 Try.underlying47 (by kernel_rfl) (by kernel_rfl) hf with hcs | ⟨a, len', cap', hcs, hl, hm, hi⟩
  · simp [Value.cells] at hcs
    obtain ⟨rfl, rfl, rfl⟩ := hcs
    exact ⟨[], ⟨none, 0, 0, rfl, rfl, by omega, by simp [maxLen], Rd.nil _ _⟩, by simp⟩
  · simp [Value.cells] at hcs
    obtain ⟨rfl, rfl, rfl⟩ := hcs
    refine row_of itC_len (by decide) hl hm fun i hil => ?_
    obtain ⟨m, hf⟩ := hi i hil
    obtain ⟨v0, y0, c0, t0⟩ := hf 0 _ rfl
    obtain ⟨v1, y1, c1, t1⟩ := hf 1 _ rfl
    obtain ⟨v2, y2, c2, t2⟩ := hf 2 _ rfl
    obtain ⟨x0, rfl, b0⟩ := part_i64 Try.underlying3 t0
    obtain ⟨x1, rfl, b1⟩ := part_i64 Try.underlying3 t1
    obtain ⟨x2, rfl, b2⟩ := part_str Try.underlying9 t2
    refine ⟨⟨x0, x1, x2⟩, ⟨b0.1, b0.2, b1.1, b1.2, b2⟩, fun j u hu => ?_⟩
    have hj : j < 3 := by
      have := (List.getElem?_eq_some_iff.1 hu).1
      simpa [itC] using this
    have hs : j = 0 ∨ j = 1 ∨ j = 2 := by omega
    rcases hs with rfl | rfl | rfl
    · exact c0.trans (by simpa [itC] using hu)
    · exact c1.trans (by simpa [itC] using hu)
    · exact c2.trans (by simpa [itC] using hu)
end
end Go.Proofs.Ytdbboooblbdihaa
