/- The statement DeltaBack, walked. -/
import Derived.Test.YtpdebandcmhbcaaDelK
import Derived.Test.YtpdebandcmhbcaaDelA
import Derived.Test.YtpdebandcmhbcaaDelZ
import Derived.Deep.CutRange
namespace Go.Proofs.Ytpdebandcmhbcaa
open Go.RowKit Bit
set_option linter.unusedVariables false

theorem packed_size {l : List Bool} {s : ByteArray} (h : Packed l s.toList) : l.length ≤ 8 * s.size ∧ s.size ≤ (l.length + 7) / 8 := by
  have := h.1
  rw [size_list] at this
  omega
set_option maxRecDepth 100000 in
set_option maxHeartbeats 4000000 in
theorem deltaBack_any (v : Value) (l : List Smp) (s : ByteArray) (many : Nat) (w : World) (h : Row smpC w v l) (hok : ∀ x ∈ l, SmpOk x) (hs0 : s.size ≤ 9223372036854775807) (hm : many < 256) :
    Calls Try.prog 5 #[v, .string s, .int .u8 (many : Int)] w fun e w' => e = .returned (.bool true) ∧ Ext w w' := by
  have HV := Lib.hid h
  obtain ⟨A, n, c, rfl, hn, hnc, hc, hr⟩ := h
  have HN := Lib.hid hn
  have HOK := Lib.hid hok
  clear hn hok hc hr
  have HX0 := Lib.hid (Ext.refl w)
  by_cases h60 : (n : Int) ≤ 60
  · by_cases h200 : (s.size : Int) ≤ 200
    · go_enter Try.func5, Try.ntmps5
      go_wp2_with fail
      refine (enc_any _ l w HV.out HOK.out (by have := HN.out; omega)).mono ?_
      rintro e v1 ⟨t, rfl, ht, hx⟩
      have HT := Lib.hid ht
      have HX1 := Lib.hid hx
      have HSZ := Lib.hid (packed_size ht)
      have HLN := Lib.hid (encB_len l)
      clear ht hx
      go_wp2_with fail
      refine (dec_any t _ n v1 (by have := HSZ.out; have := HLN.out; have := HN.out; omega) HSZ.out.1 (by omega)).mono ?_
      rintro e v2 ⟨m, rfl, hrow, hx⟩
      have hde := dec_enc HT.out HOK.out
      rw [HN.out] at hde
      rw [hde] at hrow ⊢
      have HM := Lib.hid hrow
      have HX2 := Lib.hid (HX1.out.trans hx)
      clear hrow hx hde HX1
      go_wp2_with fail
      go_loopw [11] (fun i wr => ∃ k : Nat, k ≤ 8 * s.size ∧ i = .int .i64 (k : Int) ∧ Ext v2 wr) (fun i _ => (intOf i).toNat)
      case atStart => exact ⟨8 * s.size, by omega, by go_num, Ext.refl _⟩
      case round =>
        obtain ⟨k, hk, rfl, hxt⟩ := hrel
        have HXT := Lib.hid hxt
        clear hxt
        by_cases hk0 : 0 < k
        · have hk0I : (0 : Int) < (k : Int) := by omega
          go_wp2_with fail
          refine (dec_any s k many wr (by omega) hk (by omega)).mono ?_
          rintro e v3 ⟨x, rfl, hrow, hx⟩
          have HX3 := Lib.hid (HXT.out.trans hx)
          have HR3 := Lib.hid hrow
          clear hrow hx HXT
          by_cases he : (decR s k many).2 = 0
          · have hz : ((decR s k many).2 == 0) = true := by simpa using he
            have HED := Lib.hid (enc_dec (l := (decR s k many).1) (Prod.ext rfl he) hk0)
            clear he
            have hkd : (k : Int) - 1 - (k : Int) / 8 = ((k - 1 - k / 8 : Nat) : Int) := by omega
            have HKD := Lib.hid hkd
            clear hkd
            go_wp2_with fail
            refine (enc_any x _ v3 HR3.out HED.out.2.1 (by have := HED.out.2.2; omega)).mono ?_
            rintro e v4 ⟨y, rfl, hy, hx⟩
            rw [HED.out.1] at hy ⊢
            rw [bitsAt_length]
            have HY := Lib.hid hy
            have HYS := Lib.hid (packed_size hy)
            have HX4 := Lib.hid (HX3.out.trans hx)
            clear hy hx HX3 HR3
            go_wp2_with fail
            refine (read_ok s k v4 hk (by omega)).mono ?_
            rintro e v5 ⟨rfl, hr5, hx⟩
            have HR5 := Lib.hid hr5
            have HX5 := Lib.hid (HX4.out.trans hx)
            have hlt : v4.heap.size < v5.heap.size := (Array.getElem?_eq_some_iff.1 hr5).1
            have HB4 := Lib.hid HX4.out.size
            clear hr5 hx HX4
            go_wp2_with fail
            have hys := HYS.out
            rw [bitsAt_length] at hys
            refine (read_ok y k v5 hys.1 (by omega)).mono ?_
            rintro e v6 ⟨rfl, hr6, hx⟩
            have HR6 := Lib.hid hr6
            have HRA := Lib.hid (HR5.out.ext hx)
            have HX6 := Lib.hid (HX5.out.trans hx)
            have HB5 := Lib.hid HX5.out.size
            clear hr6 hx HX5 HR5
            go_wp2_with fail
            refine (alike_any v4.heap.size v5.heap.size s y k k 0 0 k v6 HRA.out HR6.out (by omega) (by omega) (by omega) hk hys.1 (by omega) (by omega) (by
              have h1 := bitsAt_packed HY.out 0 k (by rw [bitsAt_length]; omega)
              rw [h1, List.drop_zero, List.take_of_length_le (by rw [bitsAt_length]; exact Nat.le_refl _)])).mono ?_
            rintro e v7 ⟨rfl, hk7⟩
            have HX7 := Lib.hid (hk7.to_ext HX6.out (by
              intro b hb
              have := HB4.out
              have := HB5.out
              simp at hb
              rcases hb with rfl | rfl <;> assumption))
            clear hk7 HX6 HRA HR6
            go_wp2_with fail
            go_roundw
            case rel => exact ⟨k - 1 - k / 8, by omega, by first | go_num | (congr 1; omega), HX7.out⟩
            case measure => simp [intOf]; omega
          · have hz : ((decR s k many).2 == 0) = false := by simpa using he
            clear he
            go_wp2_with fail
            go_roundw
            case rel => exact ⟨k - 1 - k / 8, by omega, by first | go_num | (congr 1; omega), HX3.out⟩
            case measure => simp [intOf]; omega
        · obtain rfl : k = 0 := by omega
          go_wp2_with fail
          refine (same_any _ m l l wr (HV.out.ext (HX2.out.trans HXT.out)) (HM.out.ext HXT.out)).mono ?_
          rintro e v3 ⟨rfl, hx⟩
          rw [decide_eq_true rfl]
          have HX3 := Lib.hid ((HX2.out.trans HXT.out).trans hx)
          clear hx
          go_wp2_with fail
          refine (known_any _).mono ?_
          rintro e v9 ⟨rfl, hx⟩
          go_wp2_with fail
          go_ret
          exact ⟨rfl, HX3.out.trans hx⟩
    · have h201 : (200 : Int) < (s.size : Int) := by omega
      go_enter Try.func5, Try.ntmps5
      go_wp2_with fail
      refine (known_any _).mono ?_
      rintro e v9 ⟨rfl, hx⟩
      go_wp2_with fail
      go_ret
      exact ⟨rfl, HX0.out.trans hx⟩
  · have h61 : (60 : Int) < (n : Int) := by omega
    go_enter Try.func5, Try.ntmps5
    go_wp2_with fail
    refine (known_any _).mono ?_
    rintro e v9 ⟨rfl, hx⟩
    go_wp2_with fail
    go_ret
    exact ⟨rfl, HX0.out.trans hx⟩
end Go.Proofs.Ytpdebandcmhbcaa
