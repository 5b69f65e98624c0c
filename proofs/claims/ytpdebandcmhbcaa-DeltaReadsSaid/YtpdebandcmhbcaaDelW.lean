/- The walks of delta's class, head, widths, Size, prefix, Put. -/
import Derived.Test.YtpdebandcmhbcaaDelP
namespace Go.Proofs.Ytpdebandcmhbcaa
open Go.RowKit Bit
set_option linter.unusedVariables false

def widthsV : Value := .agg #[.int .i64 0, .int .i64 7, .int .i64 12, .int .i64 24, .int .i64 64]
theorem widths_any (w : World) : Calls Try.prog 34 #[] w fun e w' => e = .returned widthsV ∧ Ext w w' := by
  go_enter Try.func34, Try.ntmps34
  go_wp2_with fail
  exact bodyPost_ret (v := .agg #[.int .i64 0, .int .i64 7, .int .i64 12, .int .i64 24, .int .i64 64]) (by simp [results, Try.results34, go_sem]) rfl ⟨rfl, Ext.alloc _ _⟩
theorem head_any (k : Nat) (w : World) (hk : k ≤ 4) : Calls Try.prog 33 #[.int .i64 (k : Int)] w fun e w' => e = .returned (.int .i64 (headN k : Int)) ∧ w = w' := by
  have hk4 : (k : Int) ≤ 4 := by omega
  rcases (by omega : k = 0 ∨ k = 1 ∨ k = 2 ∨ k = 3 ∨ k = 4) with rfl | rfl | rfl | rfl | rfl
  all_goals
    go_enter Try.func33, Try.ntmps33
    go_wp2_with fail
    go_ret
    exact ⟨rfl, rfl⟩
theorem prefix_any (k : Nat) (w : World) (hk : k ≤ 4) : Calls Try.prog 32 #[.int .i64 (k : Int)] w fun e w' => e = .returned (.int .u64 (preN k : Int)) ∧ w = w' := by
  rcases (by omega : k = 0 ∨ k = 1 ∨ k = 2 ∨ k = 3 ∨ k = 4) with rfl | rfl | rfl | rfl | rfl
  · go_enter Try.func32, Try.ntmps32
    go_wp2_with fail
    refine (head_any 0 w (by omega)).mono ?_
    rintro e _ ⟨rfl, rfl⟩
    rw [show ((headN 0 : Nat) : Int) = 1 from rfl]
    go_wp2_with fail
    go_ret
    exact ⟨rfl, rfl⟩
  · go_enter Try.func32, Try.ntmps32
    go_wp2_with fail
    refine (head_any 1 w (by omega)).mono ?_
    rintro e _ ⟨rfl, rfl⟩
    rw [show ((headN 1 : Nat) : Int) = 2 from rfl]
    go_wp2_with fail
    go_ret
    exact ⟨rfl, rfl⟩
  · go_enter Try.func32, Try.ntmps32
    go_wp2_with fail
    refine (head_any 2 w (by omega)).mono ?_
    rintro e _ ⟨rfl, rfl⟩
    rw [show ((headN 2 : Nat) : Int) = 3 from rfl]
    go_wp2_with fail
    go_ret
    exact ⟨rfl, rfl⟩
  · go_enter Try.func32, Try.ntmps32
    go_wp2_with fail
    refine (head_any 3 w (by omega)).mono ?_
    rintro e _ ⟨rfl, rfl⟩
    rw [show ((headN 3 : Nat) : Int) = 4 from rfl]
    go_wp2_with fail
    go_ret
    exact ⟨rfl, rfl⟩
  · go_enter Try.func32, Try.ntmps32
    go_wp2_with fail
    refine (head_any 4 w (by omega)).mono ?_
    rintro e _ ⟨rfl, rfl⟩
    rw [show ((headN 4 : Nat) : Int) = 4 from rfl]
    go_wp2_with fail
    go_ret
    exact ⟨rfl, rfl⟩
/-- How a number's class is found: shifted by a width it is something, or nothing. -/
theorem shift_yes (u m : Nat) (h : 2 ^ m ≤ u) : (0 : Int) < (u : Int) / 2 ^ m := by
  have h2 : ((2 : Int) ^ m) = ((2 ^ m : Nat) : Int) := by simp
  rw [h2, ← Int.natCast_ediv]
  have := Nat.div_pos h (Nat.two_pow_pos m)
  omega
theorem shift_no (u m : Nat) (h : u < 2 ^ m) : (u : Int) / 2 ^ m = 0 := by
  have h2 : ((2 : Int) ^ m) = ((2 ^ m : Nat) : Int) := by simp
  rw [h2, ← Int.natCast_ediv, Nat.div_eq_of_lt h]; rfl
theorem class_any (u : Nat) (w : World) (hu : u < 18446744073709551616) : Calls Try.prog 30 #[.int .u64 u] w fun e w' => e = .returned (.int .i64 (classN u : Int)) ∧ Ext w w' := by
  go_enter Try.func30, Try.ntmps30
  go_wp2_with fail
  refine (widths_any w).mono ?_
  rintro e w1 ⟨rfl, hx⟩
  have HX := Lib.hid (hx.trans (Ext.alloc w1 (.cells #[.int .i64 0, .int .i64 7, .int .i64 12, .int .i64 24, .int .i64 64] 68)))
  unfold widthsV
  go_wp2_with fail
  have hb := heap_alloc_new w1 (.cells #[.int .i64 0, .int .i64 7, .int .i64 12, .int .i64 24, .int .i64 64] 68 (0, 0))
  generalize w1.alloc (.cells #[.int .i64 0, .int .i64 7, .int .i64 12, .int .i64 24, .int .i64 64] 68) = w2 at hb HX ⊢
  generalize w1.heap.size = p at hb ⊢
  have c0 := heap_cell hb 0
  have c1 := heap_cell hb 1
  have c2 := heap_cell hb 2
  have c3 := heap_cell hb 3
  clear hx
  have HB := Lib.hid hb
  clear hb
  go_loopw [4] (fun i wr => ∃ k : Nat, k ≤ classN u ∧ i = .int .i64 (k : Int) ∧ wr = w2) (fun i _ => 4 - (intOf i).toNat)
  case atStart => exact ⟨0, by omega, rfl, by trivial⟩
  case round =>
    obtain ⟨k, hk, rfl, rfl⟩ := hrel
    have hk4 := class_le u
    rcases (by omega : k = 0 ∨ k = 1 ∨ k = 2 ∨ k = 3 ∨ k = 4) with rfl | rfl | rfl | rfl | rfl
    · by_cases hc : 0 < classN u
      · have hy := shift_yes u 0 (by rcases class_cases u with ⟨h, h1⟩ | ⟨h, h1, h2⟩ | ⟨h, h1, h2⟩ | ⟨h, h1, h2⟩ | ⟨h, h1⟩ <;> omega)
        go_wp2_with fail
        go_roundw
        case rel => exact ⟨1, by omega, rfl, by trivial⟩
        case measure => simp [intOf]
      · have hn := shift_no u 0 (by rcases class_cases u with ⟨h, h1⟩ | ⟨h, h1, h2⟩ | ⟨h, h1, h2⟩ | ⟨h, h1, h2⟩ | ⟨h, h1⟩ <;> omega)
        have he : classN u = 0 := by omega

        go_wp2_with fail
        go_ret
        exact ⟨by rw [he]; rfl, HX.out⟩
    · by_cases hc : 1 < classN u
      · have hy := shift_yes u 7 (by rcases class_cases u with ⟨h, h1⟩ | ⟨h, h1, h2⟩ | ⟨h, h1, h2⟩ | ⟨h, h1, h2⟩ | ⟨h, h1⟩ <;> omega)
        go_wp2_with fail
        go_roundw
        case rel => exact ⟨2, by omega, rfl, by trivial⟩
        case measure => simp [intOf]
      · have hn := shift_no u 7 (by rcases class_cases u with ⟨h, h1⟩ | ⟨h, h1, h2⟩ | ⟨h, h1, h2⟩ | ⟨h, h1, h2⟩ | ⟨h, h1⟩ <;> omega)
        have he : classN u = 1 := by omega

        go_wp2_with fail
        go_ret
        exact ⟨by rw [he]; rfl, HX.out⟩
    · by_cases hc : 2 < classN u
      · have hy := shift_yes u 12 (by rcases class_cases u with ⟨h, h1⟩ | ⟨h, h1, h2⟩ | ⟨h, h1, h2⟩ | ⟨h, h1, h2⟩ | ⟨h, h1⟩ <;> omega)
        go_wp2_with fail
        go_roundw
        case rel => exact ⟨3, by omega, rfl, by trivial⟩
        case measure => simp [intOf]
      · have hn := shift_no u 12 (by rcases class_cases u with ⟨h, h1⟩ | ⟨h, h1, h2⟩ | ⟨h, h1, h2⟩ | ⟨h, h1, h2⟩ | ⟨h, h1⟩ <;> omega)
        have he : classN u = 2 := by omega

        go_wp2_with fail
        go_ret
        exact ⟨by rw [he]; rfl, HX.out⟩
    · by_cases hc : 3 < classN u
      · have hy := shift_yes u 24 (by rcases class_cases u with ⟨h, h1⟩ | ⟨h, h1, h2⟩ | ⟨h, h1, h2⟩ | ⟨h, h1, h2⟩ | ⟨h, h1⟩ <;> omega)
        go_wp2_with fail
        go_roundw
        case rel => exact ⟨4, by omega, rfl, by trivial⟩
        case measure => simp [intOf]
      · have hn := shift_no u 24 (by rcases class_cases u with ⟨h, h1⟩ | ⟨h, h1, h2⟩ | ⟨h, h1, h2⟩ | ⟨h, h1, h2⟩ | ⟨h, h1⟩ <;> omega)
        have he : classN u = 3 := by omega

        go_wp2_with fail
        go_ret
        exact ⟨by rw [he]; rfl, HX.out⟩
    · have he : classN u = 4 := by omega

      go_wp2_with fail
      go_ret
      exact ⟨by rw [he]; rfl, HX.out⟩
end Go.Proofs.Ytpdebandcmhbcaa
