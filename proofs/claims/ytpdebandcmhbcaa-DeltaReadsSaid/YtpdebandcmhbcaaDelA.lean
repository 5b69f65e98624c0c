/- Two readers at once: the law's alike. -/
import Derived.Test.YtpdebandcmhbcaaDelC
import Derived.Test.YtpdebandcmhbcaaKp
import Derived.Deep.LoopGhost
namespace Go.Proofs.Ytpdebandcmhbcaa
open Go.RowKit Bit
set_option linter.unusedVariables false

theorem get_kp (g : Nat) (s : ByteArray) (n k m : Nat) (w : World) (h : Rdr w g s n k) (hn : n ≤ 8 * s.size) (hs : s.size ≤ 4294967296) (hm : m ≤ 64) (hkm : k + m ≤ n) :
    Calls Try.prog 42 #[.pointer (some ⟨g, 0, none⟩), .int .i64 m] w fun e w' => e = .returned (.tuple #[.int .u64 ((num (bitsAt s k m) : Nat) : Int), .int .i64 0]) ∧ Rdr w' g s n (k + m) ∧ Kp [g] w w' := by
  have c3 : w.cell? ⟨g, 3, none⟩ = some (.bool true) := heap_cell h 3
  have hm0 : (0 : Int) ≤ (m : Int) := by omega
  have hm1 : (m : Int) ≤ 64 := by omega
  have hs' : (m : Int) ≤ (n : Int) - k := by omega
  have HL := Lib.hid (left_any g s n k w h (by omega) (by omega))
  have HH := Lib.hid h
  clear h
  go_enter Try.func42, Try.ntmps42
  go_wp2_with fail
  refine HL.out.mono ?_
  rintro e w1 ⟨rfl, q, rfl⟩
  go_wp2_with fail
  go_loopw [6, 31] (fun u i wr => ∃ j : Nat, j ≤ m ∧ i = .int .i64 (j : Int) ∧ u = .int .u64 ((num (bitsAt s k j) : Nat) : Int) ∧ Rdr wr g s n (k + j) ∧ Kp [g] w wr) (fun _ i _ => m - (intOf i).toNat)
  case atStart => exact ⟨0, by omega, rfl, rfl, HH.out, Kp.of_ext (Ext.drewN _ _)⟩
  case round =>
    obtain ⟨j, hj, rfl, rfl, hr, hchg⟩ := hrel
    by_cases h1 : j < m
    · have d0 : wr.cell? ⟨g, 0, none⟩ = some (.string s) := heap_cell hr 0
      have d2 : wr.cell? ⟨g, 2, none⟩ = some (.int .i64 ((k + j : Nat) : Int)) := heap_cell hr 2
      have f2 := heap_frozen hr 2
      have HR := Lib.hid hr
      have HC := Lib.hid hchg
      clear hr hchg
      have hlen := bitsAt_length s k j
      generalize hb : bitsAt s k j = b at *
      have hnb := num_lt b
      have HB := Lib.hid hb
      have HLN := Lib.hid hlen
      clear hb hlen
      generalize hx : num b = x at *
      have HX := Lib.hid hx
      clear hx
      generalize ha : k + j = a at *
      have han : a < n := by omega
      have hx63 : x < 9223372036854775808 := by
        rw [HLN.out] at hnb
        have : 2 ^ j ≤ 2 ^ 63 := Nat.pow_le_pow_right (by omega) (by omega)
        have h3 : (2 : Nat) ^ 63 = 9223372036854775808 := rfl
        omega
      clear hnb
      have HA := Lib.hid ha
      clear ha
      have hidx : a / 8 < s.size := by omega
      have ha1 : a ≤ 34359738368 := by omega
      have hidx1 : (a : Int) / 8 < (s.size : Int) := by omega
      have hidx0 : (0 : Int) ≤ (a : Int) / 8 := by omega
      go_wp2_with fail
      go_quiet (fail)
      go_wp2_with fail
      rw [get_val x s[a / 8] (7 - a % 8) hx63]
      refine ⟨⟨j + 1, by omega, by go_num, ?_, ?_, ?_⟩, ?_⟩
      · rw [bitsAt_succ, HB.out, num_snoc, HX.out, HA.out, bitAt_get s a hidx]
      · rw [show k + (j + 1) = a + 1 by have := HA.out; omega]
        exact heap_setCell_same (wr.drewN nq) g 2 _ _ _ HR.out
      · exact HC.out.and ((Kp.of_ext (Ext.drewN nq wr) : Kp [g] _ _).and (Kp.store g 2 _ (by simp)))
      · simp [intOf]; omega
    · obtain rfl : j = m := by omega
      go_wp2_with fail
      go_ret2
      exact ⟨rfl, hr, hchg⟩

theorem Rdr.kp {g : Nat} {L : List Nat} {w w' : World} {s : ByteArray} {n k : Nat} (h : Rdr w g s n k) (hk : Kp L w w') (hg : g ∉ L) : Rdr w' g s n k := hk.heap h hg
set_option maxHeartbeats 1000000 in
theorem alike_any (ga gb : Nat) (sa sb : ByteArray) (na nb ka kb N : Nat) (w : World) (ha : Rdr w ga sa na ka) (hb : Rdr w gb sb nb kb) (hne : ga ≠ gb) (hna : na = ka + N) (hnb : nb = kb + N) (h8a : na ≤ 8 * sa.size) (h8b : nb ≤ 8 * sb.size) (hsa : sa.size ≤ 4294967296) (hsb : sb.size ≤ 4294967296)
    (he : bitsAt sa ka N = bitsAt sb kb N) :
    Calls Try.prog 28 #[.pointer (some ⟨ga, 0, none⟩), .pointer (some ⟨gb, 0, none⟩)] w fun e w' => e = .returned (.bool true) ∧ Kp [ga, gb] w w' := by
  have HA := Lib.hid ha
  have HB := Lib.hid hb
  have HE := Lib.hid he
  have HNE := Lib.hid hne
  clear ha hb he hne
  subst hna hnb
  go_enter Try.func28, Try.ntmps28
  go_wp2_with fail
  go_loopg [] N (fun gk wr => ∃ j : Nat, j + gk = N ∧ Rdr wr ga sa (ka + N) (ka + j) ∧ Rdr wr gb sb (kb + N) (kb + j) ∧ Kp [ga, gb] w wr)
  case atStart => exact ⟨0, by omega, HA.out, HB.out, Kp.refl _ _⟩
  case round =>
    obtain ⟨j, hj, hra, hrb, hk⟩ := hrel
    have HRA := Lib.hid hra
    have HRB := Lib.hid hrb
    have HK := Lib.hid hk
    clear hra hrb hk
    have ea : ((ka + N : Nat) : Int) - ((ka + j : Nat) : Int) = (gk : Int) := by omega
    have eb : ((kb + N : Nat) : Int) - ((kb + j : Nat) : Int) = (gk : Int) := by omega
    have EA := Lib.hid ea
    have EB := Lib.hid eb
    clear ea eb
    by_cases hg0 : 0 < gk
    · have hgI : (0 : Int) < (gk : Int) := by omega
      have HX0 := Lib.hid (Ext.refl wr)
      go_wp2_with fail
      refine (left_any ga sa (ka + N) (ka + j) wr (HRA.out.ext HX0.out) (by omega) (by omega)).mono ?_
      rintro e w1 ⟨rfl, hx⟩
      replace hx := ext_drew hx
      rw [EA.out]
      have HX1 := Lib.hid (HX0.out.trans hx)
      clear hx
      go_wp2_with fail
      refine (left_any gb sb (kb + N) (kb + j) w1 (HRB.out.ext HX1.out) (by omega) (by omega)).mono ?_
      rintro e w2 ⟨rfl, hx⟩
      replace hx := ext_drew hx
      rw [EB.out]
      have HX2 := Lib.hid (HX1.out.trans hx)
      clear hx
      go_wp2_with fail
      refine (left_any ga sa (ka + N) (ka + j) w2 (HRA.out.ext HX2.out) (by omega) (by omega)).mono ?_
      rintro e w3 ⟨rfl, hx⟩
      replace hx := ext_drew hx
      rw [EA.out]
      have HX3 := Lib.hid (HX2.out.trans hx)
      clear hx
      go_wp2_with fail
      refine (left_any gb sb (kb + N) (kb + j) w3 (HRB.out.ext HX3.out) (by omega) (by omega)).mono ?_
      rintro e w4 ⟨rfl, hx⟩
      replace hx := ext_drew hx
      rw [EB.out]
      have HX4 := Lib.hid (HX3.out.trans hx)
      clear hx
      by_cases hc : gk < 64
      · have hcI : (gk : Int) < 64 := by omega
        have he : bitsAt sa (ka + j) gk = bitsAt sb (kb + j) gk := by
          rw [← bitsAt_cut sa ka N j gk (by omega), ← bitsAt_cut sb kb N j gk (by omega), HE.out]
        have HEC := Lib.hid he
        clear he
        go_wp2_with fail
        refine (get_kp ga sa (ka + N) (ka + j) gk w4 (HRA.out.ext HX4.out) (by omega) hsa (by omega) (by omega)).mono ?_
        rintro e w5 ⟨rfl, hr5, hk5⟩
        have HR5 := Lib.hid hr5
        have HRB5 := Lib.hid ((HRB.out.ext HX4.out).kp hk5 (by simpa using HNE.out.symm))
        have HK5 := Lib.hid (HK.out.and ((Kp.of_ext HX4.out).and (hk5.mono (by simp))))
        clear hr5 hk5
        go_wp2_with fail
        refine (get_kp gb sb (kb + N) (kb + j) gk w5 HRB5.out (by omega) hsb (by omega) (by omega)).mono ?_
        rintro e w6 ⟨rfl, hr6, hk6⟩
        have HRB6 := Lib.hid hr6
        have HRA6 := Lib.hid (HR5.out.kp hk6 (by simpa using HNE.out))
        have HK6 := Lib.hid (HK5.out.and (hk6.mono (by simp)))
        clear hr6 hk6
        rw [← HEC.out]
        go_wp2_with fail
        go_roundg (gk - gk)
        case rel => exact ⟨j + gk, by omega, by rw [← Nat.add_assoc]; exact HRA6.out, by rw [← Nat.add_assoc]; exact HRB6.out, HK6.out⟩
        case measure => omega
      · have hcI : (64 : Int) ≤ (gk : Int) := by omega
        have he : bitsAt sa (ka + j) 64 = bitsAt sb (kb + j) 64 := by
          rw [← bitsAt_cut sa ka N j 64 (by omega), ← bitsAt_cut sb kb N j 64 (by omega), HE.out]
        have HEC := Lib.hid he
        clear he
        go_wp2_with fail
        refine (get_kp ga sa (ka + N) (ka + j) 64 w4 (HRA.out.ext HX4.out) (by omega) hsa (by omega) (by omega)).mono ?_
        rintro e w5 ⟨rfl, hr5, hk5⟩
        have HR5 := Lib.hid hr5
        have HRB5 := Lib.hid ((HRB.out.ext HX4.out).kp hk5 (by simpa using HNE.out.symm))
        have HK5 := Lib.hid (HK.out.and ((Kp.of_ext HX4.out).and (hk5.mono (by simp))))
        clear hr5 hk5
        go_wp2_with fail
        refine (get_kp gb sb (kb + N) (kb + j) 64 w5 HRB5.out (by omega) hsb (by omega) (by omega)).mono ?_
        rintro e w6 ⟨rfl, hr6, hk6⟩
        have HRB6 := Lib.hid hr6
        have HRA6 := Lib.hid (HR5.out.kp hk6 (by simpa using HNE.out))
        have HK6 := Lib.hid (HK5.out.and (hk6.mono (by simp)))
        clear hr6 hk6
        rw [← HEC.out]
        go_wp2_with fail
        go_roundg (gk - 64)
        case rel => exact ⟨j + 64, by omega, by rw [← Nat.add_assoc]; exact HRA6.out, by rw [← Nat.add_assoc]; exact HRB6.out, HK6.out⟩
        case measure => omega
    · obtain rfl : gk = 0 := by omega
      have hgI : ¬ (0 : Int) < ((0 : Nat) : Int) := by omega
      have HX0 := Lib.hid (Ext.refl wr)
      go_wp2_with fail
      refine (left_any ga sa (ka + N) (ka + j) wr (HRA.out.ext HX0.out) (by omega) (by omega)).mono ?_
      rintro e w1 ⟨rfl, hx⟩
      replace hx := ext_drew hx
      rw [EA.out]
      have HX1 := Lib.hid (HX0.out.trans hx)
      clear hx
      go_wp2_with fail
      refine (left_any ga sa (ka + N) (ka + j) w1 (HRA.out.ext HX1.out) (by omega) (by omega)).mono ?_
      rintro e w2 ⟨rfl, hx⟩
      replace hx := ext_drew hx
      rw [EA.out]
      have HX2 := Lib.hid (HX1.out.trans hx)
      clear hx
      go_wp2_with fail
      refine (left_any gb sb (kb + N) (kb + j) w2 (HRB.out.ext HX2.out) (by omega) (by omega)).mono ?_
      rintro e w3 ⟨rfl, hx⟩
      replace hx := ext_drew hx
      rw [EB.out]
      have HX3 := Lib.hid (HX2.out.trans hx)
      clear hx
      go_wp2_with fail
      go_ret
      exact ⟨rfl, HK.out.and (Kp.of_ext HX3.out)⟩
end Go.Proofs.Ytpdebandcmhbcaa
