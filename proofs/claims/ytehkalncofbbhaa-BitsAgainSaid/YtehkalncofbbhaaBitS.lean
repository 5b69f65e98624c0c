/- The statement BitsSeek, walked. -/
import Derived.Test.YtehkalncofbbhaaBitK
namespace Go.Proofs.Ytehkalncofbbhaa
open Go.RowKit Bit
set_option linter.unusedVariables false

theorem seek_val (x : Nat) (y : UInt8) (k : Nat) (hx : x < 9223372036854775808) :
    IntKind.u64.wrap (2 * (x : Int) + IntKind.u64.wrap (bits BinOp.and IntKind.u8 ((y.toNat : Int) / 2 ^ k) 1)) = ((2 * x + (y.toNat.testBit k).toNat : Nat) : Int) := by
  have hb : (y.toNat.testBit k).toNat ≤ 1 := by cases y.toNat.testBit k <;> simp
  rw [and_val]
  generalize (y.toNat.testBit k).toNat = b at *
  simp only [IntKind.wrap, IntKind.bits, IntKind.signed]; simp; omega

set_option maxHeartbeats 4000000 in
theorem bitsSeek_any (s : ByteArray) (a b : Nat) (w : World) (h1 : s.size ≤ 9223372036854775807) (ha : a < 65536) (hb : b < 256) :
    Calls Try.prog 9 #[.string s, .int .u16 a, .int .u8 b] w fun e w' => e = .returned (.bool true) ∧ Ext w w' := by
  by_cases hs : s.size ≤ 100
  · obtain ⟨k, hk⟩ : ∃ k, k = a % (8 * s.size + 1) := ⟨_, rfl⟩
    have hkn : k ≤ 8 * s.size := by have := Nat.mod_lt a (show 8 * s.size + 1 > 0 by omega); omega
    have hkI : (a : Int) % (8 * (s.size : Int) + 1) = (k : Int) := by rw [hk]; push_cast; rfl
    have hk1 : (a : Int) % (8 * (s.size : Int) + 1) ≤ 8 * (s.size : Int) := by omega
    have hk0 : 0 ≤ (a : Int) % (8 * (s.size : Int) + 1) := by omega
    have hmI : (b : Int) % 65 = ((b % 65 : Nat) : Int) := by omega
    have hNI : 8 * (s.size : Int) = ((8 * s.size : Nat) : Int) := by omega
    have HNI := Lib.hid hNI
    clear hNI
    have HKI := Lib.hid hkI
    have HMI := Lib.hid hmI
    by_cases hmn : (b : Int) % 65 ≤ 8 * (s.size : Int) - (a : Int) % (8 * (s.size : Int) + 1)
    · have hmk : k + b % 65 ≤ 8 * s.size := by omega
      have hm64 : b % 65 ≤ 64 := by omega
      clear hk hkI hmI
      go_enter Try.func9, Try.ntmps9
      go_wp2_with fail
      rw [HKI.out, HMI.out, HNI.out]
      clear hk1 hk0 hmn
      generalize b % 65 = m at *
      have hns : 8 * s.size ≤ 800 := by omega
      have hss : s.size ≤ 4294967296 := by omega
      clear HNI HKI
      generalize hn : 8 * s.size = n at hkn hmk hns ⊢
      have hn8 : n ≤ 8 * s.size := by omega
      have HN8 := Lib.hid hn
      clear hn
      refine (read_ok s n w hn8 hss).mono ?_
      rintro e v1 ⟨rfl, hr1, hx1⟩
      have HR1 := Lib.hid hr1
      have HC1 : Hid (Chg w.heap.size [55] w v1) := Lib.hid (Chg.of_ext hx1)
      clear hr1 hx1
      go_wp2_with fail
      refine (seek_ok w.heap.size w.heap.size s n 0 k v1 HR1.out hkn (by omega) (Nat.le_refl _)).mono ?_
      rintro e v2 ⟨rfl, hr2, hc2⟩
      have HR2 := Lib.hid hr2
      have HC2 := Lib.hid (HC1.out.trans hc2)
      clear hr2 hc2
      go_wp2_with fail
      refine (get_ok w.heap.size w.heap.size s n k m v2 HR2.out hn8 hss hm64 hmk (Nat.le_refl _)).mono ?_
      rintro e v3 ⟨rfl, hr3, hc3⟩
      have HR3 := Lib.hid hr3
      have HC3 := Lib.hid (HC2.out.trans hc3)
      clear hr3 hc3
      go_wp2_with fail
      go_loop [14, 15] (fun u i => ∃ j : Nat, j ≤ m ∧ i = .int .i64 ((k + j : Nat) : Int) ∧ u = .int .u64 ((num (bitsAt s k j) : Nat) : Int)) (fun _ i => k + m - (intOf i).toNat)
      case atStart => exact ⟨0, by omega, by simp, rfl⟩
      case round =>
        obtain ⟨j, hj, rfl, rfl⟩ := hrel
        by_cases h3 : j < m
        · have hlen := bitsAt_length s k j
          generalize hq : bitsAt s k j = q at *
          have hnb := num_lt q
          have HB := Lib.hid hq
          have HLN := Lib.hid hlen
          clear hq hlen
          generalize hx : num q = x at *
          have HX := Lib.hid hx
          clear hx
          generalize hc : k + j = c at *
          have hcn : c < n := by omega
          have hckm : (c : Int) < (k : Int) + (m : Int) := by omega
          have hx63 : x < 9223372036854775808 := by
            rw [HLN.out] at hnb
            have : 2 ^ j ≤ 2 ^ 63 := Nat.pow_le_pow_right (by omega) (by omega)
            have h3 : (2 : Nat) ^ 63 = 9223372036854775808 := rfl
            omega
          have HA := Lib.hid hc
          clear hc hnb
          have hidx : c / 8 < s.size := by omega
          have ha1 : c ≤ 34359738368 := by omega
          have hidx1 : (c : Int) / 8 < (s.size : Int) := by omega
          have hidx0 : (0 : Int) ≤ (c : Int) / 8 := by omega
          go_wp2_with fail
          rw [seek_val x s[c / 8] (7 - c % 8) hx63]
          refine ⟨⟨j + 1, by omega, by rw [← HA.out]; push_cast; rw [Int.add_assoc], ?_⟩, ?_⟩
          · rw [bitsAt_succ, HB.out, num_snoc, HX.out, HA.out, bitAt_get s c hidx]
          · have := HA.out
            simp [intOf]; omega
        · obtain rfl : j = m := by omega
          have hd : ¬ ((k + j : Nat) : Int) < (k : Int) + (j : Int) := by omega
          generalize num (bitsAt s k j) = U
          go_wp2_with fail
          refine (left_any w.heap.size s n (k + j) v3 HR3.out hmk (by omega)).mono ?_
          rintro e v4 ⟨rfl, hx⟩
          have hx4 : Ext w v4 := (HC3.out.to_ext (Nat.le_refl _)).trans (ext_drew hx)
          clear hx
          have hle : ((n : Int) - ((k + j : Nat) : Int) == (n : Int) - (k : Int) - (j : Int)) = true := by rw [beq_iff_eq]; omega
          go_wp2_with fail
          refine (known_any v4).mono ?_
          rintro e v5 ⟨rfl, h4⟩
          go_wp2_with fail
          go_ret
          exact ⟨rfl, hx4.trans h4⟩
    · have hmn2 : 8 * (s.size : Int) - (a : Int) % (8 * (s.size : Int) + 1) < (b : Int) % 65 := by omega
      have hcI : 8 * (s.size : Int) - (k : Int) = ((8 * s.size - k : Nat) : Int) := by omega
      have hmk : k + (8 * s.size - k) ≤ 8 * s.size := by omega
      have hm64 : 8 * s.size - k ≤ 64 := by omega
      have HCI := Lib.hid hcI
      clear hk hkI hmI hcI
      go_enter Try.func9, Try.ntmps9
      go_wp2_with fail
      rw [HKI.out, HCI.out, HNI.out]
      clear hk1 hk0 hmn hmn2
      generalize 8 * s.size - k = m at *
      have hns : 8 * s.size ≤ 800 := by omega
      have hss : s.size ≤ 4294967296 := by omega
      clear HNI HKI
      generalize hn : 8 * s.size = n at hkn hmk hns ⊢
      have hn8 : n ≤ 8 * s.size := by omega
      have HN8 := Lib.hid hn
      clear hn
      refine (read_ok s n w hn8 hss).mono ?_
      rintro e v1 ⟨rfl, hr1, hx1⟩
      have HR1 := Lib.hid hr1
      have HC1 : Hid (Chg w.heap.size [55] w v1) := Lib.hid (Chg.of_ext hx1)
      clear hr1 hx1
      go_wp2_with fail
      refine (seek_ok w.heap.size w.heap.size s n 0 k v1 HR1.out hkn (by omega) (Nat.le_refl _)).mono ?_
      rintro e v2 ⟨rfl, hr2, hc2⟩
      have HR2 := Lib.hid hr2
      have HC2 := Lib.hid (HC1.out.trans hc2)
      clear hr2 hc2
      go_wp2_with fail
      refine (get_ok w.heap.size w.heap.size s n k m v2 HR2.out hn8 hss hm64 hmk (Nat.le_refl _)).mono ?_
      rintro e v3 ⟨rfl, hr3, hc3⟩
      have HR3 := Lib.hid hr3
      have HC3 := Lib.hid (HC2.out.trans hc3)
      clear hr3 hc3
      go_wp2_with fail
      go_loop [14, 15] (fun u i => ∃ j : Nat, j ≤ m ∧ i = .int .i64 ((k + j : Nat) : Int) ∧ u = .int .u64 ((num (bitsAt s k j) : Nat) : Int)) (fun _ i => k + m - (intOf i).toNat)
      case atStart => exact ⟨0, by omega, by simp, rfl⟩
      case round =>
        obtain ⟨j, hj, rfl, rfl⟩ := hrel
        by_cases h3 : j < m
        · have hlen := bitsAt_length s k j
          generalize hq : bitsAt s k j = q at *
          have hnb := num_lt q
          have HB := Lib.hid hq
          have HLN := Lib.hid hlen
          clear hq hlen
          generalize hx : num q = x at *
          have HX := Lib.hid hx
          clear hx
          generalize hc : k + j = c at *
          have hcn : c < n := by omega
          have hckm : (c : Int) < (k : Int) + (m : Int) := by omega
          have hx63 : x < 9223372036854775808 := by
            rw [HLN.out] at hnb
            have : 2 ^ j ≤ 2 ^ 63 := Nat.pow_le_pow_right (by omega) (by omega)
            have h3 : (2 : Nat) ^ 63 = 9223372036854775808 := rfl
            omega
          have HA := Lib.hid hc
          clear hc hnb
          have hidx : c / 8 < s.size := by omega
          have ha1 : c ≤ 34359738368 := by omega
          have hidx1 : (c : Int) / 8 < (s.size : Int) := by omega
          have hidx0 : (0 : Int) ≤ (c : Int) / 8 := by omega
          go_wp2_with fail
          rw [seek_val x s[c / 8] (7 - c % 8) hx63]
          refine ⟨⟨j + 1, by omega, by rw [← HA.out]; push_cast; rw [Int.add_assoc], ?_⟩, ?_⟩
          · rw [bitsAt_succ, HB.out, num_snoc, HX.out, HA.out, bitAt_get s c hidx]
          · have := HA.out
            simp [intOf]; omega
        · obtain rfl : j = m := by omega
          have hd : ¬ ((k + j : Nat) : Int) < (k : Int) + (j : Int) := by omega
          generalize num (bitsAt s k j) = U
          go_wp2_with fail
          refine (left_any w.heap.size s n (k + j) v3 HR3.out hmk (by omega)).mono ?_
          rintro e v4 ⟨rfl, hx⟩
          have hx4 : Ext w v4 := (HC3.out.to_ext (Nat.le_refl _)).trans (ext_drew hx)
          clear hx
          have hle : ((n : Int) - ((k + j : Nat) : Int) == (n : Int) - (k : Int) - (j : Int)) = true := by rw [beq_iff_eq]; omega
          go_wp2_with fail
          refine (known_any v4).mono ?_
          rintro e v5 ⟨rfl, h4⟩
          go_wp2_with fail
          go_ret
          exact ⟨rfl, hx4.trans h4⟩
  · have hs2 : 100 < s.size := by omega
    go_enter Try.func9, Try.ntmps9
    go_wp2_with fail
    refine (known_any w).mono ?_
    rintro e w1 ⟨rfl, hx⟩
    go_wp2_with fail
    go_ret
    exact ⟨rfl, hx⟩
end Go.Proofs.Ytehkalncofbbhaa
