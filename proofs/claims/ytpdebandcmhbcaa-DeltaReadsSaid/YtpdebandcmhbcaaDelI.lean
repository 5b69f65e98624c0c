/- The document's codes, walked. -/
import Derived.Test.YtpdebandcmhbcaaDelR
import Derived.Test.YtpdebandcmhbcaaBitY
namespace Go.Proofs.Ytpdebandcmhbcaa
open Go.RowKit Bit
set_option linter.unusedVariables false

theorem Try.boolLit {w : World} (cs : List Bool) (hc : cs.length ≤ maxLen) : OwnL w.heap.size (w.alloc (.cells (cs.map Value.bool).toArray 4)) (.slice (some ⟨w.heap.size, 0, none⟩) cs.length cs.length) cs := by
  have := World.ownsRow_lit (e := 4) (size := 1) w (cs.map Value.bool).toArray cs.length (Nat.le_refl _) hc (by simp)
  rwa [List.toList_toArray] at this
set_option maxHeartbeats 1000000 in
theorem rCode_any (u : Nat) (w : World) (hu : u < 18446744073709551616) :
    Calls Try.prog 12 #[.int .u64 (u : Int)] w fun e w' => ∃ v, e = .returned v ∧ Boo w' v (codeB u) ∧ Ext w w' := by
  rcases class_cases u with ⟨hk, h1⟩ | ⟨hk, h0, h1⟩ | ⟨hk, h0, h1⟩ | ⟨hk, h0, h1⟩ | ⟨hk, h0⟩
  · obtain rfl : u = 0 := by omega
    have HB := Lib.hid (Try.boolLit (w := w) [false] (by decide)).boo
    go_enter Try.func12, Try.ntmps12
    go_wp2_with fail
    go_ret
    exact ⟨_, rfl, HB.out, Ext.alloc _ _⟩
  · have i0 : ((u : Int) == 0) = false := by rw [beq_eq_false_iff_ne]; omega
    have i1 : (u : Int) ≤ 127 := by omega
    go_enter Try.func12, Try.ntmps12
    go_wp2_with (first
      | (go_at_call 35
         refine (rBits_any u 7 _ hu (by decide)).mono ?_
         rintro e v1 ⟨x, rfl, hox, hx1⟩
         obtain ⟨A, n, c, rfl, hn, hnc, hcm, hr⟩ := hox.boo
         have HO := Lib.hid ((Try.boolLit (w := w) (preB 1) (by decide)).ext hx1)
         have HX := Lib.hid ((Ext.alloc w (.cells ((preB 1).map Value.bool).toArray 4)).trans hx1)
         have HR := Lib.hid hr
         have HN := Lib.hid hn
         clear hr hn hox hx1 hcm)
      | (at_builtin
         refine app_bools _ rfl (.tmp 8) (.tmp 10) rfl w.heap.size _ (preB 1) rfl HO.out HX.out.size A n c (bitsOf u 7) rfl HN.out HR.out (by rw [HN.out]; have := HN.out; rw [length_bitsOf] at this; have := head_le 1; rw [preB_len]; omega) ?_
         intro v2 w2 hown hchg
         have hext := ext_own HX.out hchg))
    go_ret
    exact ⟨v2, rfl, by unfold codeB; rw [hk]; exact hown.boo, hext⟩
  · have i0 : ((u : Int) == 0) = false := by rw [beq_eq_false_iff_ne]; omega
    have i1 : (127 : Int) < (u : Int) := by omega
    have i2 : (u : Int) ≤ 4095 := by omega
    go_enter Try.func12, Try.ntmps12
    go_wp2_with (first
      | (go_at_call 35
         refine (rBits_any u 12 _ hu (by decide)).mono ?_
         rintro e v1 ⟨x, rfl, hox, hx1⟩
         obtain ⟨A, n, c, rfl, hn, hnc, hcm, hr⟩ := hox.boo
         have HO := Lib.hid ((Try.boolLit (w := w) (preB 2) (by decide)).ext hx1)
         have HX := Lib.hid ((Ext.alloc w (.cells ((preB 2).map Value.bool).toArray 4)).trans hx1)
         have HR := Lib.hid hr
         have HN := Lib.hid hn
         clear hr hn hox hx1 hcm)
      | (at_builtin
         refine app_bools _ rfl (.tmp 14) (.tmp 16) rfl w.heap.size _ (preB 2) rfl HO.out HX.out.size A n c (bitsOf u 12) rfl HN.out HR.out (by rw [HN.out]; have := HN.out; rw [length_bitsOf] at this; have := head_le 2; rw [preB_len]; omega) ?_
         intro v2 w2 hown hchg
         have hext := ext_own HX.out hchg))
    go_ret
    exact ⟨v2, rfl, by unfold codeB; rw [hk]; exact hown.boo, hext⟩
  · have i0 : ((u : Int) == 0) = false := by rw [beq_eq_false_iff_ne]; omega
    have i1 : (127 : Int) < (u : Int) := by omega
    have i2 : (4095 : Int) < (u : Int) := by omega
    have i3 : (u : Int) ≤ 16777215 := by omega
    go_enter Try.func12, Try.ntmps12
    go_wp2_with (first
      | (go_at_call 35
         refine (rBits_any u 24 _ hu (by decide)).mono ?_
         rintro e v1 ⟨x, rfl, hox, hx1⟩
         obtain ⟨A, n, c, rfl, hn, hnc, hcm, hr⟩ := hox.boo
         have HO := Lib.hid ((Try.boolLit (w := w) (preB 3) (by decide)).ext hx1)
         have HX := Lib.hid ((Ext.alloc w (.cells ((preB 3).map Value.bool).toArray 4)).trans hx1)
         have HR := Lib.hid hr
         have HN := Lib.hid hn
         clear hr hn hox hx1 hcm)
      | (at_builtin
         refine app_bools _ rfl (.tmp 20) (.tmp 22) rfl w.heap.size _ (preB 3) rfl HO.out HX.out.size A n c (bitsOf u 24) rfl HN.out HR.out (by rw [HN.out]; have := HN.out; rw [length_bitsOf] at this; have := head_le 3; rw [preB_len]; omega) ?_
         intro v2 w2 hown hchg
         have hext := ext_own HX.out hchg))
    go_ret
    exact ⟨v2, rfl, by unfold codeB; rw [hk]; exact hown.boo, hext⟩
  · have i0 : ((u : Int) == 0) = false := by rw [beq_eq_false_iff_ne]; omega
    have i1 : (127 : Int) < (u : Int) := by omega
    have i2 : (4095 : Int) < (u : Int) := by omega
    have i3 : (16777215 : Int) < (u : Int) := by omega
    go_enter Try.func12, Try.ntmps12
    go_wp2_with (first
      | (go_at_call 35
         refine (rBits_any u 64 _ hu (by decide)).mono ?_
         rintro e v1 ⟨x, rfl, hox, hx1⟩
         obtain ⟨A, n, c, rfl, hn, hnc, hcm, hr⟩ := hox.boo
         have HO := Lib.hid ((Try.boolLit (w := w) (preB 4) (by decide)).ext hx1)
         have HX := Lib.hid ((Ext.alloc w (.cells ((preB 4).map Value.bool).toArray 4)).trans hx1)
         have HR := Lib.hid hr
         have HN := Lib.hid hn
         clear hr hn hox hx1 hcm)
      | (at_builtin
         refine app_bools _ rfl (.tmp 24) (.tmp 26) rfl w.heap.size _ (preB 4) rfl HO.out HX.out.size A n c (bitsOf u 64) rfl HN.out HR.out (by rw [HN.out]; have := HN.out; rw [length_bitsOf] at this; have := head_le 4; rw [preB_len]; omega) ?_
         intro v2 w2 hown hchg
         have hext := ext_own HX.out hchg))
    go_ret
    exact ⟨v2, rfl, by unfold codeB; rw [hk]; exact hown.boo, hext⟩
end Go.Proofs.Ytpdebandcmhbcaa
