/- The statement DeltaReads, walked. -/
import Derived.Test.YtpdebandcmhbcaaDecC
namespace Go.Proofs.Ytpdebandcmhbcaa
open Go.RowKit Bit
set_option linter.unusedVariables false

set_option maxRecDepth 100000 in
set_option maxHeartbeats 8000000 in
theorem deltaReads_any (s : ByteArray) (many samples : Int) (w : World) (hs0 : s.size ≤ 9223372036854775807) (h1 : -9223372036854775808 ≤ many ∧ many ≤ 9223372036854775807) (h2 : -9223372036854775808 ≤ samples ∧ samples ≤ 9223372036854775807) :
    Calls Try.prog 4 #[.string s, .int .i64 many, .int .i64 samples] w fun e w' => e = .returned (.bool true) ∧ Ext w w' := by
  obtain ⟨i0, hi0, hz0, hz1, hz2⟩ := info_parts Try.boolInfo
  have HX0 := Lib.hid (Ext.refl w)
  by_cases h200 : s.size ≤ 200
  · have hI200 : (s.size : Int) ≤ 200 := by omega
    have hs4 : s.size ≤ 4294967296 := by omega
    by_cases hbad : (many < 0 ∨ 8 * (s.size : Int) < many) ∨ samples < 0 ∨ 100000 < samples
    · go_enter Try.func4, Try.ntmps4
      go_wp2_with fail
      refine (dec_bad s many samples w hs4 h1.1 h1.2 h2.1 h2.2 hbad).mono ?_
      rintro e v1 ⟨rfl, hx⟩
      have HX1 := Lib.hid hx
      clear hx
      go_wp2_with fail
      by_cases hm : many < 0 ∨ 8 * (s.size : Int) < many
      · refine (read_bad s many v1 h1.1 h1.2 hm hs4).mono ?_
        rintro e _ ⟨rfl, rfl⟩
        clear hm hbad
        go_wp2_with fail
        refine (known_any _).mono ?_
        rintro e v9 ⟨rfl, hx⟩
        go_wp2_with fail
        go_ret
        exact ⟨rfl, HX1.out.trans hx⟩
      · obtain ⟨n, rfl⟩ : ∃ n : Nat, many = n := ⟨many.toNat, by omega⟩
        refine (read_ok s n v1 (by omega) hs4).mono ?_
        rintro e v2 ⟨rfl, _, hx⟩
        have HX2 := Lib.hid (HX1.out.trans hx)
        have hb2 := hbad.resolve_left hm
        clear hx hm hbad
        by_cases hneg : samples < 0
        · go_wp2_with fail
          refine (known_any _).mono ?_
          rintro e v9 ⟨rfl, hx⟩
          go_wp2_with fail
          go_ret
          exact ⟨rfl, HX2.out.trans hx⟩
        · have hpos : (0 : Int) ≤ samples := by omega
          have hbig : (100000 : Int) < samples := by omega
          go_wp2_with fail
          refine (known_any _).mono ?_
          rintro e v9 ⟨rfl, hx⟩
          go_wp2_with fail
          go_ret
          exact ⟨rfl, HX2.out.trans hx⟩
    · obtain ⟨n, rfl⟩ : ∃ n : Nat, many = n := ⟨many.toNat, by omega⟩
      obtain ⟨m, rfl⟩ : ∃ m : Nat, samples = m := ⟨samples.toNat, by omega⟩
      have hn8 : n ≤ 8 * s.size := by omega
      have hm5 : m ≤ 100000 := by omega
      have hmI : (m : Int) ≤ 100000 := by omega
      have hmJ : (0 : Int) ≤ (m : Int) := by omega
      clear hbad h1 h2
      go_enter Try.func4, Try.ntmps4
      go_wp2_with fail
      refine (dec_any s n m w hs4 hn8 hm5).mono ?_
      rintro e v1 ⟨l1, rfl, hrow, hx⟩
      have HR1 := Lib.hid hrow
      have HX1 := Lib.hid hx
      clear hrow hx
      generalize hD : (decR s n m).2 = D
      have HD := Lib.hid hD
      clear hD
      go_wp2_with fail
      refine (read_ok s n v1 hn8 hs4).mono ?_
      rintro e v2 ⟨rfl, hrd, hx⟩
      have HRD := Lib.hid hrd
      have HX2 := Lib.hid (HX1.out.trans hx)
      have HR2 := Lib.hid (HR1.out.ext hx)
      have HG : Hid (w.heap.size ≤ v1.heap.size) := Lib.hid HX1.out.size
      clear hrd hx HR1
      generalize v1.heap.size = g at HRD HG ⊢
      go_wp2_with fail
      refine (rOf_typed s n v2 (by omega) hn8).mono ?_
      rintro e v3 ⟨b, rfl, hbo, hx⟩
      have HB3 := Lib.hid hbo
      have HR3 := Lib.hid (HR2.out.ext hx)
      have HRD3 := Lib.hid (HRD.out.ext hx)
      have HX3 := Lib.hid (HX2.out.trans hx)
      clear hbo hx HRD HR2
      go_wp2_with fail
      refine (rDec_any b s n m v3 HB3.out.boo hn8 hs4 hm5).mono ?_
      rintro e v4 ⟨l2, rfl, hrow, hx⟩
      rw [HD.out]
      have HR4 := Lib.hid hrow
      have HB4 := Lib.hid (HB3.out.ext hx)
      have HRA := Lib.hid (HR3.out.ext hx)
      have HRD4 := Lib.hid (HRD3.out.ext hx)
      have HX4 := Lib.hid (HX3.out.trans hx)
      clear hrow hx HB3 HR3 HRD3
      go_wp2_with fail
      refine (same_any l1 l2 _ _ v4 HRA.out HR4.out).mono ?_
      rintro e v5 ⟨rfl, hx⟩
      rw [decide_eq_true rfl]
      have HB5 := Lib.hid (HB4.out.ext hx)
      have HRD5 := Lib.hid (HRD4.out.ext hx)
      have HX5 := Lib.hid (HX4.out.trans hx)
      clear hx HB4 HRA HRD4 HR4
      go_wp2_with fail
      go_loopw [11, 14] (fun b i wr => ∃ (k pos : Nat), k ≤ 30 ∧ i = .int .i64 (k : Int) ∧ pos ≤ n ∧ BooT wr b (bitsAt s pos (n - pos)) ∧ Rdr wr g s n pos ∧ Ext w wr) (fun _ i _ => 30 - (intOf i).toNat)
      case atStart => exact ⟨0, 0, by omega, rfl, by omega, HB5.out, HRD5.out, HX5.out⟩
      case round =>
        obtain ⟨k, pos, hk, rfl, hpos, hbt, hrd, hx⟩ := hrel
        have HX := Lib.hid hx
        have HRR := Lib.hid hrd
        obtain ⟨A, q, c, rfl, hq, hqc, hcm, hr, htyp⟩ := hbt
        rw [bitsAt_length] at hq
        have hc' : c ≤ 9223372036854775807 := by simpa [maxLen] using hcm
        have HR := Lib.hid hr
        have HT := Lib.hid htyp
        have HQ := Lib.hid hq
        clear hx hrd hr htyp hq
        by_cases hk30 : k < 30
        · have hkI : (k : Int) < 30 := by omega
          obtain ⟨u, z, y, hg⟩ : ∃ u z y, getB (bitsAt s pos (n - pos)) = (u, z, y) := ⟨_, _, _, rfl⟩
          have hz := getB_le hg
          rw [bitsAt_length] at hz
          have HGB := Lib.hid hg
          have HZ := Lib.hid hz
          clear hg hz
          go_wp2_with fail
          refine (rGet_any _ _ wr ⟨A, q, c, rfl, by rw [bitsAt_length]; exact HQ.out, hqc, hcm, HR.out⟩).mono ?_
          rintro e v6 ⟨rfl, hx⟩
          rw [HGB.out]
          have HX6 := Lib.hid (HX.out.trans hx)
          have HRR6 := Lib.hid (HRR.out.ext hx)
          have HBT6 : Hid (BooT v6 (.slice A q c) (bitsAt s pos (n - pos))) := Lib.hid (BooT.ext ⟨A, q, c, rfl, by rw [bitsAt_length]; exact HQ.out, hqc, hcm, HR.out, HT.out⟩ hx)
          clear hx HR HT HRR
          go_wp2_with fail
          refine (dget_any w.heap.size g s n pos v6 HRR6.out hpos (by omega) hn8 hs4 HG.out).mono ?_
          rintro e v7 ⟨u', z', y', rfl, hg', hrd', hc7⟩
          rw [HGB.out] at hg'
          injection hg' with e1 hg'
          injection hg' with e2 e3
          subst e1 e2 e3
          have HX7 := Lib.hid (ext_own HX6.out hc7)
          have HRR7 := Lib.hid hrd'
          have hb7 := HBT6.out.chg hc7 (by decide)
          obtain ⟨A7, q7, c7, e7, _, _, _, hr7, ht7⟩ := hb7
          injection e7 with e7a e7b e7c
          subst e7a e7b e7c
          obtain ⟨A8, hr8, hsl8, ht8⟩ := cut_tail (P := Try.prog) 31 4 i0 Try.underlying31 hi0 hz1 hr7 (by rw [bitsAt_length]; exact HQ.out) hqc z (by have := HQ.out; have := HZ.out; omega) ht7
          rw [bitsAt_drop _ _ _ _ HZ.out, show n - pos - z = n - (pos + z) by omega] at hr8
          have HR8 := Lib.hid hr8
          have HT8 := Lib.hid ht8
          have hqz : z ≤ q := by have := HQ.out; have := HZ.out; omega
          have hqI : (n : Int) - ((pos + z : Nat) : Int) = ((q - z : Nat) : Int) := by have := HQ.out; have := HZ.out; omega
          clear hrd' hc7 hr7 ht7 hr8 ht8 HBT6 HRR6
          have hzI : (z : Int) ≤ (q : Int) := by omega
          go_wp2_with fail
          refine (left_any g s n (pos + z) v7 HRR7.out (by have := HZ.out; omega) (by omega)).mono ?_
          rintro e _ ⟨rfl, q1, rfl⟩
          rw [hqI]
          go_wp2_with fail
          go_roundw
          case rel => exact ⟨k + 1, pos + z, by omega, by go_num, by have := HZ.out; omega, BooT.ext ⟨A8, q - z, c - z, rfl, by rw [bitsAt_length]; have := HQ.out; omega, by omega, by simp only [maxLen] at *; omega, HR8.out, HT8.out⟩ (Ext.drewN _ _), HRR7.out.ext (Ext.drewN _ _), HX7.out.trans (Ext.drewN _ _)⟩
          case measure => simp [intOf]; omega
        · obtain rfl : k = 30 := by omega
          go_wp2_with fail
          refine (known_any _).mono ?_
          rintro e v9 ⟨rfl, hx⟩
          go_wp2_with fail
          go_ret
          exact ⟨rfl, HX.out.trans hx⟩
  · have h201 : (200 : Int) < (s.size : Int) := by omega
    go_enter Try.func4, Try.ntmps4
    go_wp2_with fail
    refine (known_any _).mono ?_
    rintro e v9 ⟨rfl, hx⟩
    go_wp2_with fail
    go_ret
    exact ⟨rfl, HX0.out.trans hx⟩
end Go.Proofs.Ytpdebandcmhbcaa
