/- The statement GraphNil, walked. -/
import Derived.Test.YtdahdghphjlmfaaGraI
import Derived.StillTailTactics
namespace Go.Proofs.Ytdahdghphjlmfaa
open Go.RowKit Sets Gra
set_option linter.unusedVariables false

set_option maxHeartbeats 2000000 in
theorem graphNil_walk (hk : ∀ w, Calls Try.prog 10 #[] w fun e w' => e = .returned (.bool true) ∧ Ext w w') (r : Rule) (w : World) (hr : RuleOk r) :
    Calls Try.prog 6 #[ruleV r] w fun e w' => e = .returned (.bool true) ∧ Ext w w' := by
  obtain ⟨rs, rd, rk, rz, ra⟩ := r
  obtain ⟨v, hv⟩ : ∃ v, v = w.alloc (.cells #[.string rs, .string rd, .int .i64 rk, .int .i64 rz, .int .i64 ra] 31) := ⟨_, rfl⟩
  have hxv : Ext w v := by rw [hv]; exact Ext.alloc w _
  have hvh : v.heap[w.heap.size]? = some (.cells #[.string rs, .string rd, .int .i64 rk, .int .i64 rz, .int .i64 ra] 31) := by rw [hv]; exact heap_alloc_new w _
  have hcells : ∀ w', Ext v w' → w'.cell? ⟨w.heap.size, 0, none⟩ = some (.string rs) ∧ w'.cell? ⟨w.heap.size, 1, none⟩ = some (.string rd) ∧ w'.cell? ⟨w.heap.size, 2, none⟩ = some (.int .i64 rk) ∧ w'.cell? ⟨w.heap.size, 3, none⟩ = some (.int .i64 rz) ∧ w'.cell? ⟨w.heap.size, 4, none⟩ = some (.int .i64 ra) :=
    fun w' hx => ⟨hx.cell (heap_cell hvh 0), hx.cell (heap_cell hvh 1), hx.cell (heap_cell hvh 2), hx.cell (heap_cell hvh 3), hx.cell (heap_cell hvh 4)⟩
  have HC := Lib.hid hcells
  have HK := Lib.hid hk
  have HXV := Lib.hid hxv
  have HV := Lib.hid hv
  obtain ⟨c0, c1, c2, c3, c4⟩ := hcells v (Ext.refl _)
  clear hk hr hv hxv hvh hcells
  simp only [ruleV]
  go_enter Try.func6, Try.ntmps6
  go_wp2_with fail
  rw [← HV.out]
  clear HV
  refine (into_nil rd v).mono ?_
  rintro e v1 ⟨rfl, hx⟩
  have hx1 : Ext v (v1.alloc (.cells #[.string ⟨#[]⟩, .string ⟨#[]⟩, .int .i64 0, .int .i64 0, .int .i64 0] 31)) := hx.trans (Ext.alloc _ _)
  obtain ⟨v2, hv2⟩ : ∃ v2, v2 = v1.alloc (.cells #[.string ⟨#[]⟩, .string ⟨#[]⟩, .int .i64 0, .int .i64 0, .int .i64 0] 31) := ⟨_, rfl⟩
  rw [← hv2] at hx1
  have HX := Lib.hid hx1
  have HV := Lib.hid hv2
  clear c0 c1 c2 c3 c4 hx hx1
  obtain ⟨c0, c1, c2, c3, c4⟩ := HC.out v2 HX.out
  rw [hv2] at c0 c1 c2 c3 c4
  clear hv2
  go_wp2_with fail
  rw [← HV.out]
  rw [← HV.out] at c0 c1 c2 c3 c4
  clear HV
  refine (drop_nil rs rd v2).mono ?_
  rintro e v3 ⟨rfl, hx⟩
  have hx1 : Ext v (v3.alloc (.cells #[.string ⟨#[]⟩, .string ⟨#[]⟩, .int .i64 0, .int .i64 0, .int .i64 0] 31)) := (HX.out.trans hx).trans (Ext.alloc _ _)
  obtain ⟨v4, hv4⟩ : ∃ v4, v4 = v3.alloc (.cells #[.string ⟨#[]⟩, .string ⟨#[]⟩, .int .i64 0, .int .i64 0, .int .i64 0] 31) := ⟨_, rfl⟩
  rw [← hv4] at hx1
  have HX4 := Lib.hid hx1
  have HV := Lib.hid hv4
  clear c0 c1 c2 c3 c4 hx hx1 HX
  obtain ⟨c0, c1, c2, c3, c4⟩ := HC.out v4 HX4.out
  rw [hv4] at c0 c1 c2 c3 c4
  clear hv4
  go_wp2_with fail
  rw [← HV.out]
  rw [← HV.out] at c0 c1 c2 c3 c4
  clear HV
  refine (add_nil ⟨rs, rd, rk, rz, ra⟩ v4).mono ?_
  rintro e v5 ⟨rfl, hx⟩
  have HY := Lib.hid (HX4.out.trans hx)
  clear HX4 hx c0 c1 c2 c3 c4
  have HX4 := HY
  clear HY
  obtain ⟨c0, c1, c2, c3, c4⟩ := HC.out v5 HX4.out
  go_wp2_with fail
  refine (of_nil rs v5).mono ?_
  rintro e v6 ⟨rfl, hx⟩
  have HY := Lib.hid (HX4.out.trans hx)
  clear HX4 hx c0 c1 c2 c3 c4
  have HX4 := HY
  clear HY
  obtain ⟨c0, c1, c2, c3, c4⟩ := HC.out v6 HX4.out
  go_wp2_with fail
  refine (gone_nil rs v6).mono ?_
  rintro e v7 ⟨rfl, hx⟩
  have HY := Lib.hid (HX4.out.trans hx)
  clear HX4 hx c0 c1 c2 c3 c4
  have HX4 := HY
  clear HY
  obtain ⟨c0, c1, c2, c3, c4⟩ := HC.out v7 HX4.out
  go_wp2_with fail
  refine (all_nil v7).mono ?_
  rintro e v8 ⟨rfl, hx⟩
  have HY := Lib.hid (HX4.out.trans hx)
  clear HX4 hx c0 c1 c2 c3 c4
  have HX4 := HY
  clear HY
  obtain ⟨c0, c1, c2, c3, c4⟩ := HC.out v8 HX4.out
  go_wp2_with fail
  refine (copy_nil v8).mono ?_
  rintro e _ ⟨rfl, rfl⟩
  clear c0 c1 c2 c3 c4
  go_wp2_with fail
  refine (HK.out v8).mono ?_
  rintro e v9 ⟨rfl, hx⟩
  go_wp2_with fail
  go_ret
  exact ⟨rfl, HXV.out.trans (HX4.out.trans hx)⟩
end Go.Proofs.Ytdahdghphjlmfaa
