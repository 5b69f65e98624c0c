/- Layer 9: the document's Same; an index that is not there. -/
import Derived.Test.YtccjbmmhdbainaaIdxC
import Derived.Deep.Draws
namespace Go.Proofs.Ytccjbmmhdbainaa
open Go.RowKit Sets
set_option linter.unusedVariables false
set_option maxRecDepth 100000
set_option linter.unusedSectionVars false
set_option linter.unusedSimpArgs false

theorem take_same {α : Type} {La Lb : List α} {k : Nat} {q p : α} (h : La.take k = Lb.take k) (ha : La[k]? = some q) (hb : Lb[k]? = some p) (e : q = p) : La.take (k + 1) = Lb.take (k + 1) := by
  rw [List.take_add_one, List.take_add_one, h, ha, hb, e]
theorem same_no {α : Type} {La Lb : List α} {k : Nat} {q p : α} (ha : La[k]? = some q) (hb : Lb[k]? = some p) (e : q ≠ p) : ¬ La = Lb := by
  rintro rfl
  rw [ha] at hb
  injection hb with hb
  exact e hb
theorem eq_dec (a b : ByteArray) : (a.toList == b.toList) = decide (a = b) := by
  by_cases h : a = b
  · simp [h]
  · rw [decide_eq_false h, beq_eq_false_iff_ne]
    exact fun e => h (text_ext e)
theorem lab_cells0 {w : World} {ad : Addr} {l : List Lab} {k : Nat} {y : Lab} (h : Rd w (some ad) (l.flatMap labC)) (hx : l[k]? = some y) (e : ad.add (k * 2) = ad) : w.cell? ad = some (.string y.1) := by
  have := (lab_cells h hx).1
  rwa [e] at this
section
variable (s t : ByteArray) (v : Value) (w : World)
theorem has_nil : Calls Try.prog 66 #[.pointer none, .string s] w fun e w' => e = .returned (.bool false) ∧ w = w' := by
  go_enter Try.func66, Try.ntmps66
  go_wp2_with fail
  go_ret
  exact ⟨rfl, rfl⟩
theorem set_nil : Calls Try.prog 34 #[.pointer none, .string s, v] w fun e w' => e = .returned (.int .i64 11) ∧ w = w' := by
  go_enter Try.func34, Try.ntmps34
  go_wp2_with fail
  go_ret
  exact ⟨rfl, rfl⟩
theorem drop_nil : Calls Try.prog 48 #[.pointer none, .string s] w fun e w' => e = .returned (.bool false) ∧ w = w' := by
  go_enter Try.func48, Try.ntmps48
  go_wp2_with fail
  refine (has_nil s w).mono ?_
  rintro e _ ⟨rfl, rfl⟩
  go_wp2_with fail
  go_ret
  exact ⟨rfl, rfl⟩
theorem labels_nil : Calls Try.prog 31 #[.pointer none, .string s] w fun e w' => e = .returned (.slice none 0 0) ∧ w = w' := by
  go_enter Try.func31, Try.ntmps31
  go_wp2_with fail
  go_ret
  exact ⟨rfl, rfl⟩
theorem keys_nil : Calls Try.prog 30 #[.pointer none] w fun e w' => e = .returned (.slice none 0 0) ∧ w = w' := by
  go_enter Try.func30, Try.ntmps30
  go_wp2_with fail
  go_ret
  exact ⟨rfl, rfl⟩
theorem find_nil : Calls Try.prog 62 #[.pointer none, .string s, .string t] w fun e w' => e = .returned (.slice none 0 0) ∧ w = w' := by
  go_enter Try.func62, Try.ntmps62
  go_wp2_with fail
  go_ret
  exact ⟨rfl, rfl⟩
theorem with_nil : Calls Try.prog 60 #[.pointer none, .string s] w fun e w' => e = .returned (.slice none 0 0) ∧ w = w' := by
  go_enter Try.func60, Try.ntmps60
  go_wp2_with fail
  go_ret
  exact ⟨rfl, rfl⟩
end
end Go.Proofs.Ytccjbmmhdbainaa
