/- The walks of bits.Writer beyond one bit: a number, how many bits there are, the bytes; of Zig and Zag. -/
import Derived.Test.YtpdebandcmhbcaaBitW
namespace Go.Proofs.Ytpdebandcmhbcaa
open Go.RowKit Bit
set_option linter.unusedVariables false

theorem one_call (a : Array Value) (w : World) : (callFunc 44 a).run Try.prog w = .ok (.enter 44 a) w := by kernel_rfl

theorem bit_val (u s : Nat) : bits BinOp.and IntKind.u8 ((u : Int) / 2 ^ s % 256) 1 = ((u.testBit s).toNat : Int) := by
  have h2 : ((2 : Int) ^ s) = ((2 ^ s : Nat) : Int) := by simp
  have h1 : ((u : Int) / 2 ^ s % 256) = ((u / 2 ^ s % 256 : Nat) : Int) := by
    rw [h2]
    omega
  have h3 := u8_and_nat (u / 2 ^ s % 256) 1 (by omega) (by decide)
  rw [h1]
  refine h3.trans ?_
  rw [nat_mask1, Nat.testBit_eq_decide_div_mod_eq]
  congr 1
  have : u / 2 ^ s % 256 % 2 = u / 2 ^ s % 2 := by omega
  rw [this]
  rcases Nat.mod_two_eq_zero_or_one (u / 2 ^ s) with h | h <;> rw [h] <;> rfl

/-- Whatever gets the bits one by one has them: P k w' is what the world is behind k bits. -/
theorem each_any (u m : Nat) (hm : m ≤ 64) (hu : u < 18446744073709551616) (kf : FuncId) (cap : Array Value) (hcf : ∀ (a : Array Value) (w : World), (callFunc kf a).run Try.prog w = .ok (.enter kf a) w)
    (P : Nat → World → Prop) (hP : ∀ k w, k < m → P k w → Calls Try.prog kf (cap.push (.int .u8 ((u.testBit (m - 1 - k)).toNat : Int))) w fun e w' => e = .returned (.tuple #[]) ∧ P (k + 1) w') (w : World) (h0 : P 0 w) :
    Calls Try.prog 43 #[.int .u64 u, .int .i64 m, .func (.func kf) cap #[]] w fun e w' => e = .returned (.tuple #[]) ∧ P m w' := by
  have HPP := Lib.hid hP
  clear hP
  go_enter Try.func43, Try.ntmps43
  go_wp2
  go_loopw [6] (fun i wr => ∃ k : Nat, k ≤ m ∧ i = .int .i64 ((m : Int) - 1 - k) ∧ P k wr) (fun i _ => (intOf i + 1).toNat)
  case atStart => exact ⟨0, by omega, by simp, h0⟩
  case round =>
    obtain ⟨k, hk, rfl, hp⟩ := hrel
    by_cases h1 : k < m
    · have hsh : 0 ≤ (m : Int) - 1 - k := by omega
      have hsn : ((m : Int) - 1 - k).toNat = m - 1 - k := by omega
      go_wp2
      rw [bit_val]
      refine (HPP.out k wr h1 hp).mono ?_
      rintro e w1 ⟨rfl, hp1⟩
      clear hp
      go_wp2
      go_roundw
      case rel => exact ⟨k + 1, by omega, by go_num, hp1⟩
      case measure => simp [intOf]; omega
    · go_wp2
      go_end0
      have : k = m := by omega
      exact ⟨rfl, this ▸ hp⟩

theorem take_snoc (u m k : Nat) (h : k < m) (l : List Bool) : l ++ (bitsOf u m).take (k + 1) = (l ++ (bitsOf u m).take k) ++ [u.testBit (m - 1 - k)] := by
  rw [bitsOf_step u m k h, List.append_assoc]

theorem put_ok (B g : Nat) (l : List Bool) (u m : Nat) (w : World) (h : Wr B w g l) (hm : m ≤ 64) (hu : u < 2 ^ m) (hl : l.length + m ≤ 4294967296) (hB : B ≤ w.heap.size) :
    Calls Try.prog 31 #[.pointer (some ⟨g, 0, none⟩), .int .u64 u, .int .i64 m] w fun e w' => e = .returned (.int .i64 0) ∧ Wr B w' g (l ++ bitsOf u m) ∧ Chg B [28, 5] w w' := by
  have hu64 : u < 18446744073709551616 := Nat.lt_of_lt_of_le hu (Nat.pow_le_pow_right (by omega) hm)
  have he := each_any u m hm hu64 44 #[.pointer (some ⟨g, 0, none⟩)] one_call (fun k w' => Wr B w' g (l ++ (bitsOf u m).take k) ∧ Chg B [28, 5] w w') (fun k w1 hk ⟨h1, h2⟩ => by
    refine (one_any B g _ (u.testBit (m - 1 - k)) w1 h1 (by rw [List.length_append, List.length_take, length_bitsOf]; omega) (Nat.le_trans hB h2.size)).mono ?_
    rintro e w2 ⟨rfl, h3, h4⟩
    exact ⟨rfl, by rw [take_snoc u m k hk l]; exact h3, h2.trans h4⟩) w ⟨by simpa using h, Chg.refl _ _ _⟩
  have HE := Lib.hid he
  have HH := Lib.hid h
  clear he h
  have hq : (u : Int) / 2 ^ m = 0 := by
    have h2 : ((2 : Int) ^ m) = ((2 ^ m : Nat) : Int) := by simp
    rw [h2, ← Int.natCast_ediv, Nat.div_eq_of_lt hu]; rfl
  have hq0 : (u : Int) / 2 ^ m ≤ 0 := by omega
  have hm0 : (0 : Int) ≤ (m : Int) := by omega
  have hm1 : (m : Int) ≤ 64 := by omega
  clear hq hu
  rcases Nat.lt_or_ge m 64 with hlt | hge
  · have hlt' : (m : Int) < 64 := by omega
    go_enter Try.func31, Try.ntmps31
    go_wp2_with fail
    refine (HE.out).mono ?_
    rintro e w1 ⟨rfl, h3, h4⟩
    rw [List.take_of_length_le (Nat.le_of_eq (length_bitsOf u m))] at h3
    go_wp2_with fail
    go_ret
    exact ⟨rfl, h3, h4⟩
  · have hge' : (64 : Int) ≤ (m : Int) := by omega
    go_enter Try.func31, Try.ntmps31
    go_wp2_with fail
    refine (HE.out).mono ?_
    rintro e w1 ⟨rfl, h3, h4⟩
    rw [List.take_of_length_le (Nat.le_of_eq (length_bitsOf u m))] at h3
    go_wp2_with fail
    go_ret
    exact ⟨rfl, h3, h4⟩

theorem put_bad (ptr : Addr) (u : Nat) (many : Int) (w : World) (hu : u < 18446744073709551616) (h1 : -9223372036854775808 ≤ many) (h2 : many ≤ 9223372036854775807) (h : ¬ (0 ≤ many ∧ many ≤ 64 ∧ u < 2 ^ many.toNat)) :
    Calls Try.prog 31 #[.pointer (some ptr), .int .u64 u, .int .i64 many] w fun e w' => e = .returned (.int .i64 1) ∧ w = w' := by
  by_cases hn : many < 0
  · go_enter Try.func31, Try.ntmps31
    go_wp2_with fail
    go_ret
    exact ⟨rfl, rfl⟩
  · by_cases hb : 64 < many
    · go_enter Try.func31, Try.ntmps31
      go_wp2_with fail
      go_ret
      exact ⟨rfl, rfl⟩
    · obtain ⟨m, rfl⟩ : ∃ m : Nat, many = m := ⟨many.toNat, by omega⟩
      have hge : 2 ^ m ≤ u := by
        rw [Int.toNat_natCast] at h
        omega
      have hm64 : m < 64 := by
        rcases Nat.lt_or_ge m 64 with h3 | h3
        · exact h3
        · exfalso
          have : 2 ^ 64 ≤ 2 ^ m := Nat.pow_le_pow_right (by omega) h3
          have h4 : (2 : Nat) ^ 64 = 18446744073709551616 := rfl
          omega
      have hq : (0 : Int) < (u : Int) / 2 ^ m := by
        have h2 : ((2 : Int) ^ m) = ((2 ^ m : Nat) : Int) := by simp
        rw [h2, ← Int.natCast_ediv]
        have := Nat.div_pos hge (Nat.two_pow_pos m)
        omega
      have hm0 : (0 : Int) ≤ (m : Int) := by omega
      have hm1 : (m : Int) < 64 := by omega
      clear h hge
      go_enter Try.func31, Try.ntmps31
      go_wp2_with fail
      go_ret
      exact ⟨rfl, rfl⟩

theorem put_nil (u many : Int) (w : World) :
    Calls Try.prog 31 #[.pointer none, .int .u64 u, .int .i64 many] w fun e w' => e = .returned (.int .i64 11) ∧ w = w' := by
  go_enter Try.func31, Try.ntmps31
  go_wp2_with fail
  go_ret
  exact ⟨rfl, rfl⟩

theorem len_any (B g : Nat) (l : List Bool) (w : World) (h : Wr B w g l) :
    Calls Try.prog 17 #[.pointer (some ⟨g, 0, none⟩)] w fun e w' => e = .returned (.int .i64 (l.length : Int)) ∧ w = w' := by
  obtain ⟨bv, bs, hg, hBg, hown, hpk⟩ := h
  have c1 : w.cell? ⟨g, 1, none⟩ = some (.int .i64 (l.length : Int)) := heap_cell hg 1
  clear hg hown hpk
  go_enter Try.func17, Try.ntmps17
  go_wp2_with fail
  go_ret
  exact ⟨rfl, rfl⟩

theorem len_nil (w : World) : Calls Try.prog 17 #[.pointer none] w fun e w' => e = .returned (.int .i64 0) ∧ w = w' := by
  go_enter Try.func17, Try.ntmps17
  go_wp2_with fail
  go_ret
  exact ⟨rfl, rfl⟩
theorem wbytes_nil (w : World) : Calls Try.prog 15 #[.pointer none] w fun e w' => e = .returned (.string ⟨#[]⟩) ∧ w = w' := by
  go_enter Try.func15, Try.ntmps15
  go_wp2_with fail
  go_ret
  exact ⟨rfl, rfl⟩

theorem wbytes_any (B g : Nat) (l : List Bool) (w : World) (h : Wr B w g l) (hl : l.length ≤ 4294967296) :
    Calls Try.prog 15 #[.pointer (some ⟨g, 0, none⟩)] w fun e w' => ∃ s : ByteArray, e = .returned (.string s) ∧ Packed l s.toList ∧ w = w' := by
  obtain ⟨bv, bs, hg, hBg, hown, hpk⟩ := h
  obtain ⟨A, c, rfl, _, _, hrd⟩ := own_slice hown
  have c0 : w.cell? ⟨g, 0, none⟩ = some (.slice A bs.length c) := heap_cell hg 0
  have hb := back (c := c) rfl hrd
  have HP := Lib.hid hpk
  clear hg hown hpk hrd
  go_enter Try.func15, Try.ntmps15
  go_wp2_with fail
  go_ret
  exact ⟨_, rfl, by rw [toList_mk]; exact HP.out, rfl⟩
end Go.Proofs.Ytpdebandcmhbcaa
