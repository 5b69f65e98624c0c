/- The walk of package graph's Right. -/
import Derived.Test.YtdahdghphjlmfaaGraW
namespace Go.Proofs.Ytdahdghphjlmfaa
open Go.RowKit Sets Gra
set_option linter.unusedVariables false

theorem key_yes (s : ByteArray) (h : keyR s = true) (w : World) (hs : s.size ≤ 9223372036854775807) : Calls Try.prog 34 #[.string s] w fun e w' => e = .returned (.bool true) ∧ w = w' := by
  rw [← h]; exact key_any s w hs
theorem key_no (s : ByteArray) (h : keyR s = false) (w : World) (hs : s.size ≤ 9223372036854775807) : Calls Try.prog 34 #[.string s] w fun e w' => e = .returned (.bool false) ∧ w = w' := by
  rw [← h]; exact key_any s w hs

set_option maxHeartbeats 1000000 in
theorem right_any (r : Rule) (w : World) (hr : RuleOk r) : Calls Try.prog 27 #[ruleV r] w fun e w' => e = .returned (.bool (rightR r)) ∧ Ext w w' := by
  obtain ⟨src, dst, kind, size, align⟩ := r
  obtain ⟨hs, hd, k1, k2, z1, z2, a1, a2⟩ := hr
  simp only at hs hd k1 k2 z1 z2 a1 a2
  show Calls _ _ #[.agg #[.string src, .string dst, .int .i64 kind, .int .i64 size, .int .i64 align]] _ _
  by_cases hin : (1 ≤ size ∧ size ≤ 1099511627776) ∧ (0 ≤ align ∧ align < size)
  · obtain ⟨⟨b1, b2⟩, b3, b4⟩ := hin
    have b5 : align ≤ size - 1 := by omega
    have hm1 : (if (1099511627776 : Int) < size then (1099511627776 : Int) else size) = size := if_neg (by omega)
    have hm2 : (if (1 : Int) < size then size else (1 : Int)) = size := by split <;> omega
    have hm3 : (if size - 1 < align then size - 1 else align) = align := if_neg (by omega)
    have hm4 : (if (0 : Int) < align then align else (0 : Int)) = align := by split <;> omega
    have hrr : rightR ⟨src, dst, kind, size, align⟩ = (keyR src && (keyR dst && (decide (src ≠ dst) && decide (1 ≤ kind ∧ kind ≤ 7)))) := by
      unfold rightR
      rw [show decide ((1 ≤ size ∧ size ≤ 1099511627776) ∧ (0 ≤ align ∧ align < size)) = true by simp [b1, b2, b3, b4]]
      rfl
    rw [hrr]
    clear hrr
    have hx2 : Ext w ((w.alloc (.cells #[.string src, .string dst, .int .i64 kind, .int .i64 size, .int .i64 align] 31)).alloc (.cells #[.string src, .string dst, .int .i64 kind, .int .i64 size, .int .i64 align] 31)) := (Ext.alloc w _).trans (Ext.alloc _ _)
    have HX := Lib.hid hx2
    clear hx2
    cases hk1 : keyR src with
    | false =>
      have K1 := Lib.hid hk1
      clear hk1
      go_enter Try.func27, Try.ntmps27
      go_wp2_with fail
      refine (key_no src K1.out _ hs).mono ?_
      rintro e _ ⟨rfl, rfl⟩
      go_wp2_with fail
      go_ret
      exact ⟨rfl, HX.out⟩
    | true =>
      have K1 := Lib.hid hk1
      clear hk1
      cases hk2 : keyR dst with
      | false =>
        have K2 := Lib.hid hk2
        clear hk2
        go_enter Try.func27, Try.ntmps27
        go_wp2_with fail
        refine (key_yes src K1.out _ hs).mono ?_
        rintro e _ ⟨rfl, rfl⟩
        go_wp2_with fail
        refine (key_no dst K2.out _ hd).mono ?_
        rintro e _ ⟨rfl, rfl⟩
        go_wp2_with fail
        go_ret
        exact ⟨rfl, HX.out⟩
      | true =>
        have K2 := Lib.hid hk2
        clear hk2
        by_cases hne : src = dst
        · subst hne
          go_enter Try.func27, Try.ntmps27
          go_wp2_with fail
          refine (key_yes src K1.out _ hs).mono ?_
          rintro e _ ⟨rfl, rfl⟩
          go_wp2_with fail
          refine (key_yes src K2.out _ hd).mono ?_
          rintro e _ ⟨rfl, rfl⟩
          go_wp2_with fail
          go_ret
          exact ⟨ret_bool (by simp), HX.out⟩
        · have hl : src.toList ≠ dst.toList := fun h => hne (text_ext h)
          have hl1 : (src.toList != dst.toList) = true := by simpa using hl
          have hl2 : (src.toList == dst.toList) = false := by simpa using hl
          have HNE := Lib.hid hne
          clear hne hl
          go_enter Try.func27, Try.ntmps27
          go_wp2_with fail
          refine (key_yes src K1.out _ hs).mono ?_
          rintro e _ ⟨rfl, rfl⟩
          go_wp2_with fail
          refine (key_yes dst K2.out _ hd).mono ?_
          rintro e _ ⟨rfl, rfl⟩
          go_wp2_with fail
          refine (aright_any kind _).mono ?_
          rintro e _ ⟨rfl, rfl⟩
          go_wp2_with fail
          go_ret
          exact ⟨ret_bool (by simp [HNE.out]), HX.out⟩
  · have hrr : rightR ⟨src, dst, kind, size, align⟩ = false := by
      unfold rightR
      rw [show decide ((1 ≤ size ∧ size ≤ 1099511627776) ∧ (0 ≤ align ∧ align < size)) = false by rw [decide_eq_false_iff_not]; exact hin]
      rfl
    rw [hrr]
    clear hrr
    by_cases b1 : size < 1
    · have hm1 : (if (1099511627776 : Int) < size then (1099511627776 : Int) else size) = size := if_neg (by omega)
      have hm2 : (if (1 : Int) < size then size else (1 : Int)) = 1 := if_neg (by omega)
      have hm3 : (size == 1) = false := by rw [beq_eq_false_iff_ne]; omega
      clear hin
      go_enter Try.func27, Try.ntmps27
      go_wp2_with fail
      all_goals
        go_ret
        exact ⟨rfl, (Ext.alloc w _).trans (Ext.alloc _ _)⟩
    by_cases b2 : 1099511627776 < size
    · have hm1 : (if (1099511627776 : Int) < size then (1099511627776 : Int) else size) = 1099511627776 := if_pos (by omega)
      have hm3 : (size == 1099511627776) = false := by rw [beq_eq_false_iff_ne]; omega
      clear hin
      go_enter Try.func27, Try.ntmps27
      go_wp2_with fail
      all_goals
        go_ret
        exact ⟨rfl, (Ext.alloc w _).trans (Ext.alloc _ _)⟩
    have b3 : 1 ≤ size := by omega
    have b4 : size ≤ 1099511627776 := by omega
    have hm1 : (if (1099511627776 : Int) < size then (1099511627776 : Int) else size) = size := if_neg (by omega)
    have hm2 : (if (1 : Int) < size then size else (1 : Int)) = size := by split <;> omega
    by_cases c1 : align < 0
    · have hm3 : (if size - 1 < align then size - 1 else align) = align := if_neg (by omega)
      have hm4 : (if (0 : Int) < align then align else (0 : Int)) = 0 := if_neg (by omega)
      have hm5 : (align == 0) = false := by rw [beq_eq_false_iff_ne]; omega
      clear hin b1 b2
      go_enter Try.func27, Try.ntmps27
      go_wp2_with fail
      all_goals
        go_ret
        exact ⟨rfl, (Ext.alloc w _).trans (Ext.alloc _ _)⟩
    · have c2 : size - 1 < align := by omega
      have hm3 : (if size - 1 < align then size - 1 else align) = size - 1 := if_pos (by omega)
      have hm4 : (if (0 : Int) < size - 1 then size - 1 else (0 : Int)) = size - 1 := by split <;> omega
      have hm5 : (align == size - 1) = false := by rw [beq_eq_false_iff_ne]; omega
      clear hin b1 b2 c1
      go_enter Try.func27, Try.ntmps27
      go_wp2_with fail
      all_goals
        go_ret
        exact ⟨rfl, (Ext.alloc w _).trans (Ext.alloc _ _)⟩
end Go.Proofs.Ytdahdghphjlmfaa
