/- IndexNil walked. -/
import Derived.Test.YtebcjpapmjebgaaIdxO
namespace Go.Proofs.Ytebcjpapmjebgaa
open Go.RowKit Sets
set_option linter.unusedVariables false
set_option linter.unusedSectionVars false
set_option linter.unusedSimpArgs false

set_option maxRecDepth 100000 in
set_option maxHeartbeats 2000000 in
theorem indexNil_any (o : IOp) (w : World) (ho : IOpOk w o) :
    Calls Try.prog 6 #[opV o] w fun e w' => e = .returned (.bool true) ∧ Ext w w' := by
  obtain ⟨kind, key, u, ls⟩ := o
  obtain ⟨A, n, c, rfl, hn, hnc, hcm, hr⟩ := ho.row
  have hx := Ext.alloc w (.cells #[.int .i64 kind, .string key, .slice A n c] 34)
  have hb := heap_alloc_new w (.cells #[.int .i64 kind, .string key, .slice A n c] 34 (0, 0))
  have HX := Lib.hid hx
  have c0 := heap_cell hb 0
  have c1 := heap_cell hb 1
  have c2 := heap_cell hb 2
  clear ho hr hn hx hb
  simp only [opV]
  go_enter Try.func6, Try.ntmps6
  go_wp2_with fail
  refine (set_nil key (.slice A n c) _).mono ?_
  rintro e _ ⟨rfl, rfl⟩
  go_wp2_with fail
  refine (drop_nil key _).mono ?_
  rintro e _ ⟨rfl, rfl⟩
  go_wp2_with fail
  refine (labels_nil key _).mono ?_
  rintro e _ ⟨rfl, rfl⟩
  go_wp2_with fail
  refine (has_nil key _).mono ?_
  rintro e _ ⟨rfl, rfl⟩
  go_wp2_with fail
  refine (keys_nil _).mono ?_
  rintro e _ ⟨rfl, rfl⟩
  go_wp2_with fail
  refine (find_nil _ _ _).mono ?_
  rintro e _ ⟨rfl, rfl⟩
  go_wp2_with fail
  refine (with_nil _ _).mono ?_
  rintro e _ ⟨rfl, rfl⟩
  go_wp2_with fail
  refine (size_nil _).mono ?_
  rintro e _ ⟨rfl, rfl⟩
  go_wp2_with fail
  refine (copy_nil _).mono ?_
  rintro e _ ⟨rfl, rfl⟩
  go_wp2_with fail
  refine (known_any _).mono ?_
  rintro e w1 ⟨rfl, hx⟩
  go_wp2_with fail
  go_ret
  exact ⟨rfl, HX.out.trans hx⟩
end Go.Proofs.Ytebcjpapmjebgaa
