/- The statements BitsZig and BitsNil, walked. -/
import Derived.Test.YtehkalncofbbhaaBitK
namespace Go.Proofs.Ytehkalncofbbhaa
open Go.RowKit Bit
set_option linter.unusedVariables false


set_option maxHeartbeats 4000000 in
theorem bitsZig_any (m n : Int) (u : Nat) (w : World) (h1 : -9223372036854775808 ≤ m) (h2 : m ≤ 9223372036854775807) (h3 : -9223372036854775808 ≤ n) (h4 : n ≤ 9223372036854775807) (h5 : u < 18446744073709551616) :
    Calls Try.prog 6 #[.int .i64 m, .int .i64 n, .int .u64 u] w fun e w' => e = .returned (.bool true) ∧ Ext w w' := by
  have HU : Hid (-9223372036854775808 ≤ zagN u ∧ zagN u ≤ 9223372036854775807) := Lib.hid (by unfold zagN; split <;> omega)
  have h6 := zig_lt m h1 h2
  have h7 := zig_lt n h3 h4
  have HZA := Lib.hid (zag_zig m)
  have HZB := Lib.hid (zag_zig n)
  have hlt : (0 ≤ m ∧ m < n ∨ m < 0 ∧ n < m) → zigN m < zigN n := by
    unfold zigN; intro h; split <;> split <;> omega
  have hsm : (((zigN m : Nat) : Int) % 2 == 1) = decide (m < 0) := by
    unfold zigN
    split
    · rw [decide_eq_false (by omega), beq_eq_false_iff_ne]; omega
    · rw [decide_eq_true (by omega), beq_iff_eq]; omega
  have heq : (((zigN m : Nat) : Int) == ((zigN n : Nat) : Int)) = (m == n) := by
    by_cases h : m = n
    · subst h; simp
    · rw [beq_eq_false_iff_ne.2 h, beq_eq_false_iff_ne]
      intro h8
      exact h (by rw [← zag_zig m, ← zag_zig n, Int.natCast_inj.1 h8])
  generalize ha : zigN m = a at *
  generalize hb : zigN n = b at *
  have HA := Lib.hid ha
  have HB := Lib.hid hb
  clear ha hb
  by_cases hm : 0 ≤ m
  · have e1 : decide (m < 0) = false := decide_eq_false (by omega)
    rw [e1] at hsm
    by_cases hn : m < n
    · have hab : (a : Int) < (b : Int) := by have := hlt (.inl ⟨hm, hn⟩); omega
      have e2 : (m == n) = false := by rw [beq_eq_false_iff_ne]; omega
      rw [e2] at heq
      clear hlt
      go_enter Try.func6, Try.ntmps6
      go_wp2_with fail
      refine (zig_any m w h1 h2).mono ?_
      rintro e _ ⟨rfl, rfl⟩
      go_wp2_with fail
      refine (zig_any n w h3 h4).mono ?_
      rintro e _ ⟨rfl, rfl⟩
      rw [HA.out, HB.out]
      go_wp2_with fail
      refine (zag_any a w h6).mono ?_
      rintro e _ ⟨rfl, rfl⟩
      rw [HZA.out]
      go_wp2_with fail
      refine (zag_any b w h7).mono ?_
      rintro e _ ⟨rfl, rfl⟩
      rw [HZB.out]
      go_wp2_with fail
      refine (zag_any u w h5).mono ?_
      rintro e _ ⟨rfl, rfl⟩
      go_wp2_with fail
      refine (zig_any (zagN u) w (HU.out.1) (HU.out.2)).mono ?_
      rintro e _ ⟨rfl, rfl⟩
      rw [zig_zag]
      go_wp2_with fail
      refine (rZig_any m w h1 h2).mono ?_
      rintro e _ ⟨rfl, rfl⟩
      rw [HA.out]
      go_wp2_with fail
      refine (known_any w).mono ?_
      rintro e w1 ⟨rfl, hx⟩
      go_wp2_with fail
      go_ret
      exact ⟨rfl, hx⟩
    · clear hlt
      by_cases hq : m = n
      · have e2 : (m == n) = true := by rw [beq_iff_eq]; exact hq
        rw [e2] at heq
        have HQ := Lib.hid hq
        clear hq
        go_enter Try.func6, Try.ntmps6
        go_wp2_with fail
        refine (zig_any m w h1 h2).mono ?_
        rintro e _ ⟨rfl, rfl⟩
        go_wp2_with fail
        refine (zig_any n w h3 h4).mono ?_
        rintro e _ ⟨rfl, rfl⟩
        rw [HA.out, HB.out]
        go_wp2_with fail
        refine (zag_any a w h6).mono ?_
        rintro e _ ⟨rfl, rfl⟩
        rw [HZA.out]
        go_wp2_with fail
        refine (zag_any b w h7).mono ?_
        rintro e _ ⟨rfl, rfl⟩
        rw [HZB.out]
        go_wp2_with fail
        refine (zag_any u w h5).mono ?_
        rintro e _ ⟨rfl, rfl⟩
        go_wp2_with fail
        refine (zig_any (zagN u) w (HU.out.1) (HU.out.2)).mono ?_
        rintro e _ ⟨rfl, rfl⟩
        rw [zig_zag]
        go_wp2_with fail
        refine (rZig_any m w h1 h2).mono ?_
        rintro e _ ⟨rfl, rfl⟩
        rw [HA.out]
        go_wp2_with fail
        refine (known_any w).mono ?_
        rintro e w1 ⟨rfl, hx⟩
        go_wp2_with fail
        go_ret
        exact ⟨rfl, hx⟩
      · have e2 : (m == n) = false := by rw [beq_eq_false_iff_ne]; omega
        rw [e2] at heq
        clear hq
        go_enter Try.func6, Try.ntmps6
        go_wp2_with fail
        refine (zig_any m w h1 h2).mono ?_
        rintro e _ ⟨rfl, rfl⟩
        go_wp2_with fail
        refine (zig_any n w h3 h4).mono ?_
        rintro e _ ⟨rfl, rfl⟩
        rw [HA.out, HB.out]
        go_wp2_with fail
        refine (zag_any a w h6).mono ?_
        rintro e _ ⟨rfl, rfl⟩
        rw [HZA.out]
        go_wp2_with fail
        refine (zag_any b w h7).mono ?_
        rintro e _ ⟨rfl, rfl⟩
        rw [HZB.out]
        go_wp2_with fail
        refine (zag_any u w h5).mono ?_
        rintro e _ ⟨rfl, rfl⟩
        go_wp2_with fail
        refine (zig_any (zagN u) w (HU.out.1) (HU.out.2)).mono ?_
        rintro e _ ⟨rfl, rfl⟩
        rw [zig_zag]
        go_wp2_with fail
        refine (rZig_any m w h1 h2).mono ?_
        rintro e _ ⟨rfl, rfl⟩
        rw [HA.out]
        go_wp2_with fail
        refine (known_any w).mono ?_
        rintro e w1 ⟨rfl, hx⟩
        go_wp2_with fail
        go_ret
        exact ⟨rfl, hx⟩
  · have e1 : decide (m < 0) = true := decide_eq_true (by omega)
    rw [e1] at hsm
    by_cases hn : n < m
    · have hab : (a : Int) < (b : Int) := by have := hlt (.inr ⟨by omega, hn⟩); omega
      have e2 : (m == n) = false := by rw [beq_eq_false_iff_ne]; omega
      rw [e2] at heq
      clear hlt
      go_enter Try.func6, Try.ntmps6
      go_wp2_with fail
      refine (zig_any m w h1 h2).mono ?_
      rintro e _ ⟨rfl, rfl⟩
      go_wp2_with fail
      refine (zig_any n w h3 h4).mono ?_
      rintro e _ ⟨rfl, rfl⟩
      rw [HA.out, HB.out]
      go_wp2_with fail
      refine (zag_any a w h6).mono ?_
      rintro e _ ⟨rfl, rfl⟩
      rw [HZA.out]
      go_wp2_with fail
      refine (zag_any b w h7).mono ?_
      rintro e _ ⟨rfl, rfl⟩
      rw [HZB.out]
      go_wp2_with fail
      refine (zag_any u w h5).mono ?_
      rintro e _ ⟨rfl, rfl⟩
      go_wp2_with fail
      refine (zig_any (zagN u) w (HU.out.1) (HU.out.2)).mono ?_
      rintro e _ ⟨rfl, rfl⟩
      rw [zig_zag]
      go_wp2_with fail
      refine (rZig_any m w h1 h2).mono ?_
      rintro e _ ⟨rfl, rfl⟩
      rw [HA.out]
      go_wp2_with fail
      refine (known_any w).mono ?_
      rintro e w1 ⟨rfl, hx⟩
      go_wp2_with fail
      go_ret
      exact ⟨rfl, hx⟩
    · clear hlt
      by_cases hq : m = n
      · have e2 : (m == n) = true := by rw [beq_iff_eq]; exact hq
        rw [e2] at heq
        have HQ := Lib.hid hq
        clear hq
        go_enter Try.func6, Try.ntmps6
        go_wp2_with fail
        refine (zig_any m w h1 h2).mono ?_
        rintro e _ ⟨rfl, rfl⟩
        go_wp2_with fail
        refine (zig_any n w h3 h4).mono ?_
        rintro e _ ⟨rfl, rfl⟩
        rw [HA.out, HB.out]
        go_wp2_with fail
        refine (zag_any a w h6).mono ?_
        rintro e _ ⟨rfl, rfl⟩
        rw [HZA.out]
        go_wp2_with fail
        refine (zag_any b w h7).mono ?_
        rintro e _ ⟨rfl, rfl⟩
        rw [HZB.out]
        go_wp2_with fail
        refine (zag_any u w h5).mono ?_
        rintro e _ ⟨rfl, rfl⟩
        go_wp2_with fail
        refine (zig_any (zagN u) w (HU.out.1) (HU.out.2)).mono ?_
        rintro e _ ⟨rfl, rfl⟩
        rw [zig_zag]
        go_wp2_with fail
        refine (rZig_any m w h1 h2).mono ?_
        rintro e _ ⟨rfl, rfl⟩
        rw [HA.out]
        go_wp2_with fail
        refine (known_any w).mono ?_
        rintro e w1 ⟨rfl, hx⟩
        go_wp2_with fail
        go_ret
        exact ⟨rfl, hx⟩
      · have e2 : (m == n) = false := by rw [beq_eq_false_iff_ne]; omega
        rw [e2] at heq
        clear hq
        go_enter Try.func6, Try.ntmps6
        go_wp2_with fail
        refine (zig_any m w h1 h2).mono ?_
        rintro e _ ⟨rfl, rfl⟩
        go_wp2_with fail
        refine (zig_any n w h3 h4).mono ?_
        rintro e _ ⟨rfl, rfl⟩
        rw [HA.out, HB.out]
        go_wp2_with fail
        refine (zag_any a w h6).mono ?_
        rintro e _ ⟨rfl, rfl⟩
        rw [HZA.out]
        go_wp2_with fail
        refine (zag_any b w h7).mono ?_
        rintro e _ ⟨rfl, rfl⟩
        rw [HZB.out]
        go_wp2_with fail
        refine (zag_any u w h5).mono ?_
        rintro e _ ⟨rfl, rfl⟩
        go_wp2_with fail
        refine (zig_any (zagN u) w (HU.out.1) (HU.out.2)).mono ?_
        rintro e _ ⟨rfl, rfl⟩
        rw [zig_zag]
        go_wp2_with fail
        refine (rZig_any m w h1 h2).mono ?_
        rintro e _ ⟨rfl, rfl⟩
        rw [HA.out]
        go_wp2_with fail
        refine (known_any w).mono ?_
        rintro e w1 ⟨rfl, hx⟩
        go_wp2_with fail
        go_ret
        exact ⟨rfl, hx⟩

theorem left_zero (g : Nat) (w : World) (c1 : w.cell? ⟨g, 1, none⟩ = some (.int .i64 0)) (c2 : w.cell? ⟨g, 2, none⟩ = some (.int .i64 0)) :
    Calls Try.prog 23 #[.pointer (some ⟨g, 0, none⟩)] w fun e w' => e = .returned (.int .i64 0) ∧ ∃ q, w' = w.drewN q := by
  go_enter Try.func23, Try.ntmps23
  go_wp2_with fail
  go_quiet (fail)
  go_wp2_with fail
  go_ret
  exact ⟨rfl, _, rfl⟩

theorem bitsNil_any (n : Int) (w : World) (h1 : -9223372036854775808 ≤ n) (h2 : n ≤ 9223372036854775807) :
    Calls Try.prog 8 #[.int .i64 n] w fun e w' => e = .returned (.bool true) ∧ Ext w w' := by
  go_enter Try.func8, Try.ntmps8
  go_wp2_with fail
  have hx := Ext.alloc w (.cells #[.string ⟨#[]⟩, .int .i64 0, .int .i64 0, .bool false] 55)
  have hh := heap_alloc_last w (.cells #[.string ⟨#[]⟩, .int .i64 0, .int .i64 0, .bool false] 55)
  have c1 : (w.alloc (.cells #[.string ⟨#[]⟩, .int .i64 0, .int .i64 0, .bool false] 55)).cell? ⟨w.heap.size, 1, none⟩ = some (.int .i64 0) := heap_cell hh 1
  have c2 : (w.alloc (.cells #[.string ⟨#[]⟩, .int .i64 0, .int .i64 0, .bool false] 55)).cell? ⟨w.heap.size, 2, none⟩ = some (.int .i64 0) := heap_cell hh 2
  have c3 : (w.alloc (.cells #[.string ⟨#[]⟩, .int .i64 0, .int .i64 0, .bool false] 55)).cell? ⟨w.heap.size, 3, none⟩ = some (.bool false) := heap_cell hh 3
  clear hh
  generalize (w.alloc (.cells #[.string ⟨#[]⟩, .int .i64 0, .int .i64 0, .bool false] 55)) = v at *
  refine (get_nil n v).mono ?_
  rintro e _ ⟨rfl, rfl⟩
  go_wp2_with fail
  refine (get_zero w.heap.size n v c3).mono ?_
  rintro e _ ⟨rfl, rfl⟩
  go_wp2_with fail
  refine (put_nil 0 n v).mono ?_
  rintro e _ ⟨rfl, rfl⟩
  go_wp2_with fail
  refine (len_nil v).mono ?_
  rintro e _ ⟨rfl, rfl⟩
  go_wp2_with fail
  refine (wbytes_nil v).mono ?_
  rintro e _ ⟨rfl, rfl⟩
  go_wp2_with fail
  refine (left_nil v).mono ?_
  rintro e _ ⟨rfl, rfl⟩
  go_wp2_with fail
  refine (left_zero w.heap.size v c1 c2).mono ?_
  rintro e v2 ⟨rfl, h3⟩
  have hx2 : Ext w v2 := hx.trans (ext_drew h3)
  have c4 : v2.cell? ⟨w.heap.size, 3, none⟩ = some (.bool false) := by
    obtain ⟨q, rfl⟩ := h3
    exact c3
  clear h3 c1 c2 c3
  go_wp2_with fail
  refine (seek_nil 0 v2).mono ?_
  rintro e _ ⟨rfl, rfl⟩
  go_wp2_with fail
  refine (seek_zero w.heap.size 0 v2 c4).mono ?_
  rintro e _ ⟨rfl, rfl⟩
  go_wp2_with fail
  refine (known_any v2).mono ?_
  rintro e v3 ⟨rfl, h4⟩
  go_wp2_with fail
  go_ret
  exact ⟨rfl, hx2.trans h4⟩
end Go.Proofs.Ytehkalncofbbhaa
