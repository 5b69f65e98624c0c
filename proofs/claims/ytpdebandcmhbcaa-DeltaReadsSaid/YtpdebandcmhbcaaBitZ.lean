/- The walks of Zig and Zag, and of the reference's Zig. -/
import Derived.Test.YtpdebandcmhbcaaMem
import Derived.Test.YtpdebandcmhbcaaByt
import Derived.Laws.BitsAllLaws
import Derived.Laws.DeepNot64
import Derived.Laws.Unary
namespace Go.Proofs.Ytpdebandcmhbcaa
open Go.RowKit
set_option linter.unusedVariables false

def zigN (n : Int) : Nat := if 0 ≤ n then (2 * n).toNat else (-2 * n - 1).toNat
def zagN (u : Nat) : Int := if u % 2 = 0 then ((u / 2 : Nat) : Int) else -1 - ((u / 2 : Nat) : Int)

theorem u64_ones (a : Nat) (ha : a < 18446744073709551616) : bits .xor .u64 (a : Int) 18446744073709551615 = 18446744073709551615 - (a : Int) := by
  show IntKind.u64.wrap ((BitVec.ofInt 64 (a : Int) ^^^ BitVec.ofInt 64 18446744073709551615).toNat : Int) = _
  have h1 : BitVec.ofInt 64 18446744073709551615 = BitVec.allOnes 64 := by decide
  rw [h1, BitVec.xor_allOnes, BitVec.toNat_not, ofInt_u64 a (by omega)]
  simp [IntKind.wrap, IntKind.bits, IntKind.signed]
  omega
theorem u64_none (a : Nat) (ha : a < 18446744073709551616) : bits .xor .u64 (a : Int) 0 = (a : Int) := by
  show IntKind.u64.wrap ((BitVec.ofInt 64 (a : Int) ^^^ BitVec.ofInt 64 0).toNat : Int) = _
  have h1 : BitVec.ofInt 64 0 = 0#64 := by decide
  rw [h1, BitVec.xor_zero, ofInt_u64 a (by omega)]
  simp [IntKind.wrap, IntKind.bits, IntKind.signed]
  omega
theorem i64_ones (a : Nat) (ha : a < 9223372036854775808) : bits .xor .i64 (a : Int) (-1) = -1 - (a : Int) := by
  show IntKind.i64.wrap ((BitVec.ofInt 64 (a : Int) ^^^ BitVec.ofInt 64 (-1)).toNat : Int) = _
  have h1 : BitVec.ofInt 64 (-1) = BitVec.allOnes 64 := by decide
  rw [h1, BitVec.xor_allOnes, BitVec.toNat_not, ofInt_u64 a (by omega)]
  simp [IntKind.wrap, IntKind.bits, IntKind.signed]
  omega
theorem i64_none (a : Nat) (ha : a < 9223372036854775808) : bits .xor .i64 (a : Int) 0 = (a : Int) := by
  show IntKind.i64.wrap ((BitVec.ofInt 64 (a : Int) ^^^ BitVec.ofInt 64 0).toNat : Int) = _
  have h1 : BitVec.ofInt 64 0 = 0#64 := by decide
  rw [h1, BitVec.xor_zero, ofInt_u64 a (by omega)]
  simp [IntKind.wrap, IntKind.bits, IntKind.signed]
  omega

theorem zig_any (n : Int) (w : World) (h1 : -9223372036854775808 ≤ n) (h2 : n ≤ 9223372036854775807) :
    Calls Try.prog 29 #[.int .i64 n] w fun e w' => e = .returned (.int .u64 ((zigN n : Nat) : Int)) ∧ w = w' := by
  by_cases hn : 0 ≤ n
  · go_enter Try.func29, Try.ntmps29
    go_wp2_with fail
    go_ret
    refine ⟨ret_int ?_, rfl⟩
    obtain ⟨m, rfl⟩ : ∃ m : Nat, n = m := ⟨n.toNat, by omega⟩
    have e1 : (m : Int) / 9223372036854775808 = 0 := by omega
    have e2 : (m : Int) * 2 = ((2 * m : Nat) : Int) := by omega
    rw [e1, e2, u64_none _ (by omega), zigN, if_pos hn]
    omega
  · have hn2 : n < 0 := by omega
    go_enter Try.func29, Try.ntmps29
    go_wp2_with fail
    go_ret
    refine ⟨ret_int ?_, rfl⟩
    have e1 : IntKind.u64.wrap (n / 9223372036854775808) = 18446744073709551615 := by
      rw [show n / 9223372036854775808 = -1 by omega]; decide
    have e2 : IntKind.u64.wrap (IntKind.u64.wrap n * 2) = (((18446744073709551616 + 2 * n).toNat : Nat) : Int) := by
      simp only [IntKind.wrap, IntKind.bits, IntKind.signed]; simp; omega
    rw [e1, e2, u64_ones _ (by omega), zigN, if_neg (by omega)]
    omega
theorem rZig_any (n : Int) (w : World) (h1 : -9223372036854775808 ≤ n) (h2 : n ≤ 9223372036854775807) :
    Calls Try.prog 36 #[.int .i64 n] w fun e w' => e = .returned (.int .u64 ((zigN n : Nat) : Int)) ∧ w = w' := by
  by_cases hn : 0 ≤ n
  · go_enter Try.func36, Try.ntmps36
    go_wp2_with fail
    go_ret
    refine ⟨ret_int ?_, rfl⟩
    rw [zigN, if_pos hn]
    omega
  · have hn2 : n < 0 := by omega
    go_enter Try.func36, Try.ntmps36
    go_wp2_with fail
    go_ret
    refine ⟨ret_int ?_, rfl⟩
    rw [zigN, if_neg (by omega)]
    omega
theorem zag_any (u : Nat) (w : World) (hu : u < 18446744073709551616) :
    Calls Try.prog 50 #[.int .u64 u] w fun e w' => e = .returned (.int .i64 (zagN u)) ∧ w = w' := by
  go_enter Try.func50, Try.ntmps50
  go_wp2_with fail
  go_ret
  refine ⟨ret_int ?_, rfl⟩
  have e1 : bits BinOp.and IntKind.u64 (u : Int) 1 = ((u % 2 : Nat) : Int) := by
    have := u64_and_nat u 1 hu (by decide)
    rw [nat_mask1] at this
    exact this
  have e2 : (u : Int) / 2 = ((u / 2 : Nat) : Int) := by omega
  rw [e1, e2]
  rcases Nat.mod_two_eq_zero_or_one u with h | h
  · rw [h, zagN, if_pos h, show wrap64 (-wrap64 ((0 : Nat) : Int)) = 0 by decide +kernel]
    exact i64_none (u / 2) (by omega)
  · rw [h, zagN, if_neg (by omega), show wrap64 (-wrap64 ((1 : Nat) : Int)) = -1 by decide +kernel]
    exact i64_ones (u / 2) (by omega)
theorem zag_zig (n : Int) : zagN (zigN n) = n := by
  unfold zagN zigN
  split <;> split <;> omega
theorem zig_zag (u : Nat) : zigN (zagN u) = u := by
  unfold zagN zigN
  split <;> split <;> omega
theorem zig_lt (n : Int) (h1 : -9223372036854775808 ≤ n) (h2 : n ≤ 9223372036854775807) : zigN n < 18446744073709551616 := by
  unfold zigN
  split <;> omega
end Go.Proofs.Ytpdebandcmhbcaa
