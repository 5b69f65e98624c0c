/- Labels as a map's keys. -/
import Derived.Test.YtccjbmmhdbainaaMpR
import Derived.Test.YtccjbmmhdbainaaSetC
import Derived.Test.YtccjbmmhdbainaaRow
import Derived.DeepKeys4
import Derived.Carry
import Derived.Test.YtccjbmmhdbainaaLift
namespace Go.Proofs.Ytccjbmmhdbainaa
open Go.RowKit Sets
set_option linter.unusedVariables false
set_option maxRecDepth 100000
set_option linter.unusedSectionVars false
set_option linter.unusedSimpArgs false

abbrev Lab := ByteArray × ByteArray
def labV (y : Lab) : Value := .agg #[.string y.1, .string y.2]
def labC (y : Lab) : List Value := [.string y.1, .string y.2]
theorem labC_len (y : Lab) : (labC y).length = 2 := rfl
theorem labC_one (y : Lab) : ∀ u ∈ labC y, u.oneCell' = true := by
  intro u hu
  simp [labC] at hu
  rcases hu with rfl | rfl <;> rfl
def okS (s : ByteArray) : Prop := s.size ≤ 9223372036854775807
def okL (y : Lab) : Prop := okS y.1 ∧ okS y.2
theorem strKe {P : Program} {k : TypeId} (hk : P.underlying k = some .string) : Ke P k Value.string okS :=
  ⟨Maps.string_keyed hk, fun x hx => ⟨_, Go.WideMaps.keyOf_string_mk hk (by unfold okS at hx; simpa [maxLen] using hx)⟩, fun x y h => by injection h⟩
theorem Try.labType : Try.prog.keyType 69 = true := by kernel_rfl
theorem Try.labCells : Try.prog.cellsOf 69 = 2 := by kernel_rfl
theorem Try.strCells : Try.prog.cellsOf 9 = 1 := by kernel_rfl
theorem Try.typesN : ∃ m, Try.prog.types.size = m + 1 := by
  have h : 0 < Try.prog.types.size := of_decide_eq_true (by kernel_rfl)
  exact ⟨Try.prog.types.size - 1, by omega⟩
theorem labKey (y : Lab) (h : okL y) : ∃ l, keyOf Try.prog 69 (labV y) = some l := by
  obtain ⟨m, hm⟩ := Try.typesN
  have h1 : y.1.size ≤ maxLen := by have := h.1; unfold okS at this; simpa [maxLen] using this
  have h2 : y.2.size ≤ maxLen := by have := h.2; unfold okS at this; simpa [maxLen] using this
  unfold keyOf
  simp only [Try.underlying69]
  rw [if_pos (by simp [Try.labType, Value.formed, labV, Try.underlying69, Try.labCells]), hm]
  unfold Program.keyLits
  simp only [Try.underlying69, Value.cells, labV]
  rw [if_pos ⟨by rw [Try.labCells]; rfl, by kernel_rfl⟩]
  simp [Try.strCells, Program.keyLits, Try.underlying9, h1, h2]
theorem labKe : Ke Try.prog 69 labV okL :=
  ⟨Maps.Keyed.of_law (deep_law_laid Try.laidOut (m := 5) (by decide) (of_decide_eq_true (by kernel_rfl)) (by kernel_rfl) (by kernel_rfl)), labKey, fun x y h => by
    obtain ⟨a, b⟩ := x
    obtain ⟨c, d⟩ := y
    simp [labV] at h
    rw [h.1, h.2]⟩
end Go.Proofs.Ytccjbmmhdbainaa
