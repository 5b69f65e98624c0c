/- The walks of delta's Size and Put. -/
import Derived.Test.YtpdebandcmhbcaaDelW
namespace Go.Proofs.Ytpdebandcmhbcaa
open Go.RowKit Bit
set_option linter.unusedVariables false

theorem Try.index0 (w : World) : (Instr.index 68 (.agg #[.int .i64 0, .int .i64 7, .int .i64 12, .int .i64 24, .int .i64 64]) (.int .i64 0)).run Try.prog w = .ok (.int .i64 0) w := by kernel_rfl
theorem Try.index1 (w : World) : (Instr.index 68 (.agg #[.int .i64 0, .int .i64 7, .int .i64 12, .int .i64 24, .int .i64 64]) (.int .i64 1)).run Try.prog w = .ok (.int .i64 7) w := by kernel_rfl
theorem Try.index2 (w : World) : (Instr.index 68 (.agg #[.int .i64 0, .int .i64 7, .int .i64 12, .int .i64 24, .int .i64 64]) (.int .i64 2)).run Try.prog w = .ok (.int .i64 12) w := by kernel_rfl
theorem Try.index3 (w : World) : (Instr.index 68 (.agg #[.int .i64 0, .int .i64 7, .int .i64 12, .int .i64 24, .int .i64 64]) (.int .i64 3)).run Try.prog w = .ok (.int .i64 24) w := by kernel_rfl
theorem Try.index4 (w : World) : (Instr.index 68 (.agg #[.int .i64 0, .int .i64 7, .int .i64 12, .int .i64 24, .int .i64 64]) (.int .i64 4)).run Try.prog w = .ok (.int .i64 64) w := by kernel_rfl
theorem size_at (u k : Nat) (w : World) (hu : u < 18446744073709551616) (hk : classN u = k) : Calls Try.prog 18 #[.int .u64 u] w fun e w' => e = .returned (.int .i64 ((headN k + widthN k : Nat) : Int)) ∧ Ext w w' := by
  have hk4 : k ≤ 4 := by rw [← hk]; exact class_le u
  rcases (by omega : k = 0 ∨ k = 1 ∨ k = 2 ∨ k = 3 ∨ k = 4) with rfl | rfl | rfl | rfl | rfl
  · have HK := Lib.hid hk
    clear hk hk4
    go_enter Try.func18, Try.ntmps18
    go_wp2_with fail
    refine (class_any u w hu).mono ?_
    rintro e w1 ⟨rfl, hx⟩
    rw [HK.out]
    have HX := Lib.hid hx
    clear hx
    go_wp2_with fail
    refine (head_any 0 w1 (by omega)).mono ?_
    rintro e _ ⟨rfl, rfl⟩
    go_wp2_with fail
    refine (widths_any _).mono ?_
    rintro e w2 ⟨rfl, hx⟩
    have HX2 := Lib.hid (HX.out.trans hx)
    clear hx
    unfold widthsV
    have hix := Try.index0 w2
    go_wp2_with fail
    go_ret
    exact ⟨ret_int (by decide +kernel), HX2.out⟩
  · have HK := Lib.hid hk
    clear hk hk4
    go_enter Try.func18, Try.ntmps18
    go_wp2_with fail
    refine (class_any u w hu).mono ?_
    rintro e w1 ⟨rfl, hx⟩
    rw [HK.out]
    have HX := Lib.hid hx
    clear hx
    go_wp2_with fail
    refine (head_any 1 w1 (by omega)).mono ?_
    rintro e _ ⟨rfl, rfl⟩
    go_wp2_with fail
    refine (widths_any _).mono ?_
    rintro e w2 ⟨rfl, hx⟩
    have HX2 := Lib.hid (HX.out.trans hx)
    clear hx
    unfold widthsV
    have hix := Try.index1 w2
    go_wp2_with fail
    go_ret
    exact ⟨ret_int (by decide +kernel), HX2.out⟩
  · have HK := Lib.hid hk
    clear hk hk4
    go_enter Try.func18, Try.ntmps18
    go_wp2_with fail
    refine (class_any u w hu).mono ?_
    rintro e w1 ⟨rfl, hx⟩
    rw [HK.out]
    have HX := Lib.hid hx
    clear hx
    go_wp2_with fail
    refine (head_any 2 w1 (by omega)).mono ?_
    rintro e _ ⟨rfl, rfl⟩
    go_wp2_with fail
    refine (widths_any _).mono ?_
    rintro e w2 ⟨rfl, hx⟩
    have HX2 := Lib.hid (HX.out.trans hx)
    clear hx
    unfold widthsV
    have hix := Try.index2 w2
    go_wp2_with fail
    go_ret
    exact ⟨ret_int (by decide +kernel), HX2.out⟩
  · have HK := Lib.hid hk
    clear hk hk4
    go_enter Try.func18, Try.ntmps18
    go_wp2_with fail
    refine (class_any u w hu).mono ?_
    rintro e w1 ⟨rfl, hx⟩
    rw [HK.out]
    have HX := Lib.hid hx
    clear hx
    go_wp2_with fail
    refine (head_any 3 w1 (by omega)).mono ?_
    rintro e _ ⟨rfl, rfl⟩
    go_wp2_with fail
    refine (widths_any _).mono ?_
    rintro e w2 ⟨rfl, hx⟩
    have HX2 := Lib.hid (HX.out.trans hx)
    clear hx
    unfold widthsV
    have hix := Try.index3 w2
    go_wp2_with fail
    go_ret
    exact ⟨ret_int (by decide +kernel), HX2.out⟩
  · have HK := Lib.hid hk
    clear hk hk4
    go_enter Try.func18, Try.ntmps18
    go_wp2_with fail
    refine (class_any u w hu).mono ?_
    rintro e w1 ⟨rfl, hx⟩
    rw [HK.out]
    have HX := Lib.hid hx
    clear hx
    go_wp2_with fail
    refine (head_any 4 w1 (by omega)).mono ?_
    rintro e _ ⟨rfl, rfl⟩
    go_wp2_with fail
    refine (widths_any _).mono ?_
    rintro e w2 ⟨rfl, hx⟩
    have HX2 := Lib.hid (HX.out.trans hx)
    clear hx
    unfold widthsV
    have hix := Try.index4 w2
    go_wp2_with fail
    go_ret
    exact ⟨ret_int (by decide +kernel), HX2.out⟩
theorem size_any (u : Nat) (w : World) (hu : u < 18446744073709551616) : Calls Try.prog 18 #[.int .u64 u] w fun e w' => e = .returned (.int .i64 (sizeN u : Int)) ∧ Ext w w' := size_at u _ w hu rfl

theorem dput_at (B g : Nat) (l : List Bool) (u k : Nat) (w : World) (h : Wr B w g l) (hu : u < 18446744073709551616) (hl : l.length ≤ 4294960000) (hB : B ≤ w.heap.size) (hk : classN u = k) (hf : u < 2 ^ widthN k) :
    Calls Try.prog 11 #[.pointer (some ⟨g, 0, none⟩), .int .u64 u] w fun e w' => e = .returned (.int .i64 0) ∧ Wr B w' g (l ++ (bitsOf (preN k) (headN k) ++ bitsOf u (widthN k))) ∧ Chg B [28, 5] w w' := by
  have hk4 : k ≤ 4 := by rw [← hk]; exact class_le u
  have H := Lib.hid h
  have HF := Lib.hid hf
  clear h hf
  rcases (by omega : k = 0 ∨ k = 1 ∨ k = 2 ∨ k = 3 ∨ k = 4) with rfl | rfl | rfl | rfl | rfl
  · have HK := Lib.hid hk
    clear hk hk4
    go_enter Try.func11, Try.ntmps11
    go_wp2_with fail
    refine (class_any u w hu).mono ?_
    rintro e w1 ⟨rfl, hx⟩
    rw [HK.out]
    have HX := Lib.hid hx
    clear hx
    go_wp2_with fail
    refine (prefix_any 0 w1 (by omega)).mono ?_
    rintro e _ ⟨rfl, rfl⟩
    go_wp2_with fail
    refine (head_any 0 _ (by omega)).mono ?_
    rintro e _ ⟨rfl, rfl⟩
    go_wp2_with fail
    refine (put_ok B g l (preN 0) (headN 0) _ (H.out.ext HX.out) (by decide) (by decide) (by simp only [headN]; omega) (Nat.le_trans hB HX.out.size)).mono ?_
    rintro e w2 ⟨rfl, hw2, hc2⟩
    have HW2 := Lib.hid hw2
    have HC2 := Lib.hid ((Chg.of_ext HX.out).trans hc2)
    clear hw2 hc2
    go_wp2_with fail
    refine (widths_any w2).mono ?_
    rintro e w3 ⟨rfl, hx⟩
    have HX3 := Lib.hid hx
    clear hx
    unfold widthsV
    have hix := Try.index0 w3
    go_wp2_with fail
    refine (put_ok B g _ u (widthN 0) w3 (HW2.out.ext HX3.out) (by decide) HF.out (by simp only [List.length_append, length_bitsOf, headN, widthN]; omega) (Nat.le_trans hB (Nat.le_trans HC2.out.size HX3.out.size))).mono ?_
    rintro e w4 ⟨rfl, hw4, hc4⟩
    have HW4 := Lib.hid hw4
    have HC4 := Lib.hid ((HC2.out.trans (Chg.of_ext HX3.out)).trans hc4)
    clear hw4 hc4
    go_wp2_with fail
    go_ret
    exact ⟨rfl, by rw [← List.append_assoc]; exact HW4.out, HC4.out⟩
  · have HK := Lib.hid hk
    clear hk hk4
    go_enter Try.func11, Try.ntmps11
    go_wp2_with fail
    refine (class_any u w hu).mono ?_
    rintro e w1 ⟨rfl, hx⟩
    rw [HK.out]
    have HX := Lib.hid hx
    clear hx
    go_wp2_with fail
    refine (prefix_any 1 w1 (by omega)).mono ?_
    rintro e _ ⟨rfl, rfl⟩
    go_wp2_with fail
    refine (head_any 1 _ (by omega)).mono ?_
    rintro e _ ⟨rfl, rfl⟩
    go_wp2_with fail
    refine (put_ok B g l (preN 1) (headN 1) _ (H.out.ext HX.out) (by decide) (by decide) (by simp only [headN]; omega) (Nat.le_trans hB HX.out.size)).mono ?_
    rintro e w2 ⟨rfl, hw2, hc2⟩
    have HW2 := Lib.hid hw2
    have HC2 := Lib.hid ((Chg.of_ext HX.out).trans hc2)
    clear hw2 hc2
    go_wp2_with fail
    refine (widths_any w2).mono ?_
    rintro e w3 ⟨rfl, hx⟩
    have HX3 := Lib.hid hx
    clear hx
    unfold widthsV
    have hix := Try.index1 w3
    go_wp2_with fail
    refine (put_ok B g _ u (widthN 1) w3 (HW2.out.ext HX3.out) (by decide) HF.out (by simp only [List.length_append, length_bitsOf, headN, widthN]; omega) (Nat.le_trans hB (Nat.le_trans HC2.out.size HX3.out.size))).mono ?_
    rintro e w4 ⟨rfl, hw4, hc4⟩
    have HW4 := Lib.hid hw4
    have HC4 := Lib.hid ((HC2.out.trans (Chg.of_ext HX3.out)).trans hc4)
    clear hw4 hc4
    go_wp2_with fail
    go_ret
    exact ⟨rfl, by rw [← List.append_assoc]; exact HW4.out, HC4.out⟩
  · have HK := Lib.hid hk
    clear hk hk4
    go_enter Try.func11, Try.ntmps11
    go_wp2_with fail
    refine (class_any u w hu).mono ?_
    rintro e w1 ⟨rfl, hx⟩
    rw [HK.out]
    have HX := Lib.hid hx
    clear hx
    go_wp2_with fail
    refine (prefix_any 2 w1 (by omega)).mono ?_
    rintro e _ ⟨rfl, rfl⟩
    go_wp2_with fail
    refine (head_any 2 _ (by omega)).mono ?_
    rintro e _ ⟨rfl, rfl⟩
    go_wp2_with fail
    refine (put_ok B g l (preN 2) (headN 2) _ (H.out.ext HX.out) (by decide) (by decide) (by simp only [headN]; omega) (Nat.le_trans hB HX.out.size)).mono ?_
    rintro e w2 ⟨rfl, hw2, hc2⟩
    have HW2 := Lib.hid hw2
    have HC2 := Lib.hid ((Chg.of_ext HX.out).trans hc2)
    clear hw2 hc2
    go_wp2_with fail
    refine (widths_any w2).mono ?_
    rintro e w3 ⟨rfl, hx⟩
    have HX3 := Lib.hid hx
    clear hx
    unfold widthsV
    have hix := Try.index2 w3
    go_wp2_with fail
    refine (put_ok B g _ u (widthN 2) w3 (HW2.out.ext HX3.out) (by decide) HF.out (by simp only [List.length_append, length_bitsOf, headN, widthN]; omega) (Nat.le_trans hB (Nat.le_trans HC2.out.size HX3.out.size))).mono ?_
    rintro e w4 ⟨rfl, hw4, hc4⟩
    have HW4 := Lib.hid hw4
    have HC4 := Lib.hid ((HC2.out.trans (Chg.of_ext HX3.out)).trans hc4)
    clear hw4 hc4
    go_wp2_with fail
    go_ret
    exact ⟨rfl, by rw [← List.append_assoc]; exact HW4.out, HC4.out⟩
  · have HK := Lib.hid hk
    clear hk hk4
    go_enter Try.func11, Try.ntmps11
    go_wp2_with fail
    refine (class_any u w hu).mono ?_
    rintro e w1 ⟨rfl, hx⟩
    rw [HK.out]
    have HX := Lib.hid hx
    clear hx
    go_wp2_with fail
    refine (prefix_any 3 w1 (by omega)).mono ?_
    rintro e _ ⟨rfl, rfl⟩
    go_wp2_with fail
    refine (head_any 3 _ (by omega)).mono ?_
    rintro e _ ⟨rfl, rfl⟩
    go_wp2_with fail
    refine (put_ok B g l (preN 3) (headN 3) _ (H.out.ext HX.out) (by decide) (by decide) (by simp only [headN]; omega) (Nat.le_trans hB HX.out.size)).mono ?_
    rintro e w2 ⟨rfl, hw2, hc2⟩
    have HW2 := Lib.hid hw2
    have HC2 := Lib.hid ((Chg.of_ext HX.out).trans hc2)
    clear hw2 hc2
    go_wp2_with fail
    refine (widths_any w2).mono ?_
    rintro e w3 ⟨rfl, hx⟩
    have HX3 := Lib.hid hx
    clear hx
    unfold widthsV
    have hix := Try.index3 w3
    go_wp2_with fail
    refine (put_ok B g _ u (widthN 3) w3 (HW2.out.ext HX3.out) (by decide) HF.out (by simp only [List.length_append, length_bitsOf, headN, widthN]; omega) (Nat.le_trans hB (Nat.le_trans HC2.out.size HX3.out.size))).mono ?_
    rintro e w4 ⟨rfl, hw4, hc4⟩
    have HW4 := Lib.hid hw4
    have HC4 := Lib.hid ((HC2.out.trans (Chg.of_ext HX3.out)).trans hc4)
    clear hw4 hc4
    go_wp2_with fail
    go_ret
    exact ⟨rfl, by rw [← List.append_assoc]; exact HW4.out, HC4.out⟩
  · have HK := Lib.hid hk
    clear hk hk4
    go_enter Try.func11, Try.ntmps11
    go_wp2_with fail
    refine (class_any u w hu).mono ?_
    rintro e w1 ⟨rfl, hx⟩
    rw [HK.out]
    have HX := Lib.hid hx
    clear hx
    go_wp2_with fail
    refine (prefix_any 4 w1 (by omega)).mono ?_
    rintro e _ ⟨rfl, rfl⟩
    go_wp2_with fail
    refine (head_any 4 _ (by omega)).mono ?_
    rintro e _ ⟨rfl, rfl⟩
    go_wp2_with fail
    refine (put_ok B g l (preN 4) (headN 4) _ (H.out.ext HX.out) (by decide) (by decide) (by simp only [headN]; omega) (Nat.le_trans hB HX.out.size)).mono ?_
    rintro e w2 ⟨rfl, hw2, hc2⟩
    have HW2 := Lib.hid hw2
    have HC2 := Lib.hid ((Chg.of_ext HX.out).trans hc2)
    clear hw2 hc2
    go_wp2_with fail
    refine (widths_any w2).mono ?_
    rintro e w3 ⟨rfl, hx⟩
    have HX3 := Lib.hid hx
    clear hx
    unfold widthsV
    have hix := Try.index4 w3
    go_wp2_with fail
    refine (put_ok B g _ u (widthN 4) w3 (HW2.out.ext HX3.out) (by decide) HF.out (by simp only [List.length_append, length_bitsOf, headN, widthN]; omega) (Nat.le_trans hB (Nat.le_trans HC2.out.size HX3.out.size))).mono ?_
    rintro e w4 ⟨rfl, hw4, hc4⟩
    have HW4 := Lib.hid hw4
    have HC4 := Lib.hid ((HC2.out.trans (Chg.of_ext HX3.out)).trans hc4)
    clear hw4 hc4
    go_wp2_with fail
    go_ret
    exact ⟨rfl, by rw [← List.append_assoc]; exact HW4.out, HC4.out⟩
theorem dput_any (B g : Nat) (l : List Bool) (u : Nat) (w : World) (h : Wr B w g l) (hu : u < 18446744073709551616) (hl : l.length ≤ 4294960000) (hB : B ≤ w.heap.size) :
    Calls Try.prog 11 #[.pointer (some ⟨g, 0, none⟩), .int .u64 u] w fun e w' => e = .returned (.int .i64 0) ∧ Wr B w' g (l ++ codeB u) ∧ Chg B [28, 5] w w' := by
  have := dput_at B g l u _ w h hu hl hB rfl (class_fits u hu)
  rw [pre_bits _ (class_le u)] at this
  exact this
theorem dput_nil (u : Int) (w : World) : Calls Try.prog 11 #[.pointer none, .int .u64 u] w fun e w' => e = .returned (.int .i64 11) ∧ w = w' := by
  go_enter Try.func11, Try.ntmps11
  go_wp2_with fail
  go_ret
  exact ⟨rfl, rfl⟩
end Go.Proofs.Ytpdebandcmhbcaa
