/- The walks of delta's code, back, Get. -/
import Derived.Test.YtpdebandcmhbcaaDelV
namespace Go.Proofs.Ytpdebandcmhbcaa
open Go.RowKit Bit
set_option linter.unusedVariables false

theorem bitsAt_get (s : ByteArray) (a m j : Nat) (h : j < m) : (bitsAt s a m)[j]? = some (bitAt s (a + j)) := by
  simp [bitsAt, h]
theorem bitsAt_cut (s : ByteArray) (a m h c : Nat) (hm : h + c ≤ m) : ((bitsAt s a m).drop h).take c = bitsAt s (a + h) c := by
  apply List.ext_getElem?
  intro i
  by_cases hi : i < c
  · rw [List.getElem?_take, if_pos hi, List.getElem?_drop, bitsAt_get _ _ _ _ (by omega), bitsAt_get _ _ _ _ hi, Nat.add_assoc]
  · rw [List.getElem?_eq_none (by rw [List.length_take]; omega), List.getElem?_eq_none (by rw [bitsAt_length]; omega)]
theorem bitsAt_drop (s : ByteArray) (a m h : Nat) (hm : h ≤ m) : (bitsAt s a m).drop h = bitsAt s (a + h) (m - h) := by
  have := bitsAt_cut s a m h (m - h) (by omega)
  rwa [List.take_of_length_le (by rw [List.length_drop, bitsAt_length]; exact Nat.le_refl _)] at this
theorem num_one (s : ByteArray) (a : Nat) : num (bitsAt s a 1) = (bitAt s a).toNat := by
  have : bitsAt s a 1 = [] ++ [bitAt s a] := by simp [bitsAt]
  rw [this, num_snoc]
  simp [num]

/-- back: the reader stands where so many bits are left. -/
theorem dback_any (B g : Nat) (s : ByteArray) (n p k : Nat) (w : World) (h : Rdr w g s n p) (hk : k ≤ n) (hn : n ≤ 34359738368) (hB : B ≤ g) :
    Calls Try.prog 41 #[.pointer (some ⟨g, 0, none⟩), .int .i64 ((n : Int) - k)] w fun e w' => e = .returned (.tuple #[]) ∧ Rdr w' g s n k ∧ Chg B [77] w w' := by
  have H := Lib.hid h
  clear h
  go_enter Try.func41, Try.ntmps41
  go_wp2_with fail
  go_loopw [4] (fun i wr => ∃ j q : Nat, j ≤ k ∧ i = .int .i64 (j : Int) ∧ Rdr wr g s n q ∧ Chg B [77] w wr) (fun i _ => k - (intOf i).toNat)
  case atStart => exact ⟨0, p, by omega, rfl, H.out, Chg.refl _ _ _⟩
  case round =>
    obtain ⟨j, q, hj, rfl, hr, hc⟩ := hrel
    have HR := Lib.hid hr
    have HC := Lib.hid hc
    clear hr hc
    go_wp2_with fail
    refine (seek_ok B g s n q j wr HR.out (by omega) hn hB).mono ?_
    rintro e w1 ⟨rfl, hr1, hc1⟩
    have HR1 := Lib.hid hr1
    have HC1 := Lib.hid (HC.out.trans hc1)
    clear hr1 hc1
    go_wp2_with fail
    refine (left_any g s n j w1 HR1.out (by omega) hn).mono ?_
    rintro e w2 ⟨rfl, q2, rfl⟩
    by_cases hjk : j = k
    · subst hjk
      go_wp2_with fail
      exact bodyPost_ret (v := .tuple #[]) (by simp [results, Try.results41, go_sem]) rfl ⟨rfl, HR1.out, HC1.out.drewN _⟩
    · have hne : decide ((n : Int) - (j : Int) = (n : Int) - (k : Int)) = false := by rw [decide_eq_false_iff_not]; omega
      have hne2 : ((n : Int) - (j : Int) == (n : Int) - (k : Int)) = false := by simp; omega
      go_wp2_with fail
      go_roundw
      case rel => exact ⟨j + 1, j, by omega, by go_num, HR1.out, HC1.out.drewN _⟩
      case measure => simp [intOf]; omega
end Go.Proofs.Ytpdebandcmhbcaa
