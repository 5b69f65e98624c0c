/- Plain law of bits read back; the statements BitsParts and BitsAgain, walked. -/
import Derived.Test.YtehkalncofbbhaaBitK
namespace Go.Proofs.Ytehkalncofbbhaa
open Go.RowKit Bit
set_option linter.unusedVariables false

theorem num_bit : ∀ (n : Nat) (l : List Bool), l.length = n → ∀ i, i < n → (num l).testBit (n - 1 - i) = l.getD i false := by
  intro n
  induction n with
  | zero => intro l _ i hi; omega
  | succ n ih =>
    intro l hl i hi
    obtain ⟨l', x, rfl⟩ : ∃ l' x, l = l' ++ [x] := ⟨l.dropLast, l.getLast (by intro h; simp [h] at hl), (List.dropLast_concat_getLast _).symm⟩
    have hl' : l'.length = n := by simpa using hl
    rw [num_snoc, getD_snoc, hl']
    by_cases hn : i = n
    · subst hn
      rw [if_pos rfl, show i + 1 - 1 - i = 0 by omega, Nat.testBit_zero]
      cases x <;> simp <;> omega
    · rw [if_neg hn, show n + 1 - 1 - i = (n - 1 - i) + 1 by omega, Nat.testBit_succ, show (2 * num l' + x.toNat) / 2 = num l' by cases x <;> simp <;> omega]
      exact ih l' hl' i (by omega)
theorem bitsOf_num (l : List Bool) : bitsOf (num l) l.length = l := by
  apply List.ext_getElem
  · rw [length_bitsOf]
  · intro i h1 h2
    have := bitsOf_get (num l) l.length i h2
    rw [num_bit l.length l rfl i h2, List.getD_eq_getElem?_getD, List.getD_eq_getElem?_getD, List.getElem?_eq_getElem h1, List.getElem?_eq_getElem h2] at this
    exact this
theorem bitAt_packed {l : List Bool} {s : ByteArray} (h : Packed l s.toList) (i : Nat) (hi : i < l.length) : bitAt s i = l.getD i false := by
  have := h.2 (i / 8) (i % 8) (by rw [h.1]; omega) (by omega)
  rw [bitAt, this, show 8 * (i / 8) + i % 8 = i by omega]
theorem bitsAt_packed {l : List Bool} {s : ByteArray} (h : Packed l s.toList) (a m : Nat) (hm : a + m ≤ l.length) : bitsAt s a m = (l.drop a).take m := by
  apply List.ext_getElem
  · simp [bitsAt_length]; omega
  · intro i h1 h2
    rw [bitsAt_length] at h1
    simp only [bitsAt, List.getElem_map, List.getElem_range, List.getElem_take, List.getElem_drop]
    rw [bitAt_packed h (a + i) (by omega), List.getD_eq_getElem?_getD, List.getElem?_eq_getElem (by omega)]
    rfl
theorem packed_bits (s : ByteArray) : Packed (bitsAt s 0 (8 * s.size)) s.toList := by
  refine ⟨by rw [bitsAt_length, size_list]; omega, fun j i hj hi => ?_⟩
  rw [size_list] at hj
  have hb : 8 * j + i < (bitsAt s 0 (8 * s.size)).length := by rw [bitsAt_length]; omega
  rw [List.getD_eq_getElem?_getD, List.getD_eq_getElem?_getD, List.getElem?_eq_getElem hb]
  simp only [bitsAt, List.getElem_map, List.getElem_range, Option.getD_some]
  rw [bitAt, show (0 + (8 * j + i)) / 8 = j by omega, show (0 + (8 * j + i)) % 8 = i by omega, List.getD_eq_getElem?_getD]
theorem bitsAt_add (s : ByteArray) (a m : Nat) : bitsAt s 0 (a + m) = bitsAt s 0 a ++ bitsAt s a m := by
  simp [bitsAt, List.range_add, List.map_map, Function.comp_def]


set_option maxHeartbeats 4000000 in
theorem bitsParts_any (u b c : Nat) (w : World) (hu : u < 18446744073709551616) (hb : b < 256) (hc : c < 256) :
    Calls Try.prog 10 #[.int .u64 u, .int .u8 b, .int .u8 c] w fun e w' => e = .returned (.bool true) ∧ Ext w w' := by
  obtain ⟨n, hn⟩ : ∃ n, n = b % 65 := ⟨_, rfl⟩
  obtain ⟨k, hk⟩ : ∃ k, k = c % (n + 1) := ⟨_, rfl⟩
  have hkn : k ≤ n := by have := Nat.mod_lt c (show n + 1 > 0 by omega); omega
  have hn64 : n ≤ 64 := by omega
  have hnI : (b : Int) % 65 = (n : Int) := by omega
  have hkI : (c : Int) % ((b : Int) % 65 + 1) = (k : Int) := by rw [hnI, hk]; push_cast; rfl
  have hk1 : (c : Int) % ((b : Int) % 65 + 1) ≤ (b : Int) % 65 := by omega
  have hk0 : 0 ≤ (c : Int) % ((b : Int) % 65 + 1) := by omega
  have HKI := Lib.hid hkI
  have HNI := Lib.hid hnI
  have hw0 := Wr.new w w.heap.size (Nat.le_refl _)
  have hx0 := Ext.alloc w (.cells #[.slice none 0 0, .int .i64 0] 26)
  have HW0 := Lib.hid hw0
  have HX0 := Lib.hid hx0
  clear hn hk hkI hnI hw0 hx0
  go_enter Try.func10, Try.ntmps10
  go_wp2_with fail
  rw [HKI.out, HNI.out]
  clear hk1 hk0 HKI HNI
  generalize w.alloc (.cells #[.slice none 0 0, .int .i64 0] 26) = v0 at *
  by_cases hf : u < 2 ^ n
  · refine (put_ok w.heap.size w.heap.size [] u n v0 HW0.out hn64 hf (by simp; omega) HX0.out.size).mono ?_
    rintro e v1 ⟨rfl, hw1, hc1⟩
    have HW1 := Lib.hid hw1
    have HX1 : Hid (Ext w v1) := Lib.hid (((Chg.of_ext HX0.out).trans hc1).to_ext (Nat.le_refl _))
    clear hw1 hc1
    go_wp2_with fail
    have HB : Hid ((bitsOf u n).length = n) := Lib.hid (length_bitsOf u n)
    have HXW := Lib.hid (Wr.new v1 v1.heap.size (Nat.le_refl _))
    have HC2 : Hid (Chg v1.heap.size [26, 5, 55] v1 (v1.alloc (.cells #[.slice none 0 0, .int .i64 0] 26))) := Lib.hid ((Chg.refl _ _ v1).alloc _)
    generalize v1.alloc (.cells #[.slice none 0 0, .int .i64 0] 26) = v2 at *
    generalize hbl : bitsOf u n = l at *
    clear hbl
    rw [List.nil_append] at HW1
    have hwk : ∀ v, Chg v1.heap.size [26, 5, 55] v1 v → Wr w.heap.size v w.heap.size l := fun v hc => HW1.out.ext (hc.to_ext (Nat.le_refl _))
    have HWK := Lib.hid hwk
    clear hwk
    refine (wbytes_any w.heap.size w.heap.size l v2 (HWK.out v2 HC2.out) (by have := HB.out; omega)).mono ?_
    rintro e _ ⟨s, rfl, hs, rfl⟩
    have HS := Lib.hid hs
    have hsz : s.size = (n + 7) / 8 := by have := hs.1; rw [size_list, HB.out] at this; exact this
    clear hs
    go_wp2_with fail
    refine (read_ok s n v2 (by omega) (by omega)).mono ?_
    rintro e v3 ⟨rfl, hr3, hx3⟩
    generalize hgr : v2.heap.size = gr at *
    have hgr2 : v1.heap.size ≤ gr := by rw [← hgr]; exact HC2.out.size
    have HR3 := Lib.hid hr3
    have HC3 := Lib.hid (HC2.out.then hx3)
    have HX3 := Lib.hid (HXW.out.ext hx3)
    clear hr3 hx3 hgr
    go_wp2_with fail
    refine (get_ok v1.heap.size gr s n 0 k v3 HR3.out (by omega) (by omega) (by omega) (by omega) hgr2).mono ?_
    rintro e v4 ⟨rfl, hr4, hc4⟩
    have HR4 := Lib.hid hr4
    have HC4 := Lib.hid (HC3.out.trans (hc4.mono (by simp)))
    have HX4 := Lib.hid (HX3.out.chg hc4 (by decide) (by decide))
    clear hr4 hc4
    rw [bitsAt_packed HS.out 0 k (by have := HB.out; omega), List.drop_zero]
    go_wp2_with fail
    have hnk : (n : Int) - (k : Int) = ((n - k : Nat) : Int) := by omega
    rw [hnk]
    clear hnk
    refine (get_ok v1.heap.size gr s n (0 + k) (n - k) v4 HR4.out (by omega) (by omega) (by omega) (by omega) hgr2).mono ?_
    rintro e v5 ⟨rfl, hr5, hc5⟩
    have HC5 := Lib.hid (HC4.out.trans (hc5.mono (by simp)))
    have HX5 := Lib.hid (HX4.out.chg hc5 (by decide) (by decide))
    clear hr5 hc5
    rw [bitsAt_packed HS.out (0 + k) (n - k) (by have := HB.out; omega), Nat.zero_add, List.take_of_length_le (Nat.le_of_eq (by rw [List.length_drop, HB.out]))]
    have hl1 : (l.take k).length = k := by rw [List.length_take, HB.out]; omega
    have hl2 : (l.drop k).length = n - k := by rw [List.length_drop, HB.out]
    have hb1 : bitsOf (num (l.take k)) k = l.take k := by
      have := bitsOf_num (l.take k)
      rw [hl1] at this; exact this
    have hb2 : bitsOf (num (l.drop k)) (n - k) = l.drop k := by
      have := bitsOf_num (l.drop k)
      rw [hl2] at this; exact this
    have hn1 : num (l.take k) < 2 ^ k := by
      have := num_lt (l.take k)
      rw [hl1] at this; exact this
    have hn2 : num (l.drop k) < 2 ^ (n - k) := by
      have := num_lt (l.drop k)
      rw [hl2] at this; exact this
    have HB1 := Lib.hid hb1
    have HB2 := Lib.hid hb2
    clear hb1 hb2 hl1 hl2
    generalize num (l.take k) = x1 at *
    generalize num (l.drop k) = x2 at *
    have HN1 := Lib.hid hn1
    have HN2 := Lib.hid hn2
    clear hn1 hn2
    go_wp2_with fail
    refine (put_ok v1.heap.size v1.heap.size [] x1 k v5 HX5.out (by omega) HN1.out (by simp; omega) HC5.out.size).mono ?_
    rintro e v6 ⟨rfl, hw6, hc6⟩
    rw [HB1.out, List.nil_append] at hw6
    have HX6 := Lib.hid hw6
    have HC6 := Lib.hid (HC5.out.trans (hc6.mono (by simp)))
    clear hw6 hc6
    go_wp2_with fail
    have hnk : (n : Int) - (k : Int) = ((n - k : Nat) : Int) := by omega
    rw [hnk]
    clear hnk
    refine (put_ok v1.heap.size v1.heap.size (l.take k) x2 (n - k) v6 HX6.out (by omega) HN2.out (by rw [List.length_take]; have := HB.out; omega) HC6.out.size).mono ?_
    rintro e v7 ⟨rfl, hw7, hc7⟩
    rw [HB2.out, List.take_append_drop] at hw7
    have HX7 := Lib.hid hw7
    have HC7 := Lib.hid (HC6.out.trans (hc7.mono (by simp)))
    clear hw7 hc7
    go_wp2_with fail
    refine (wbytes_any v1.heap.size v1.heap.size l v7 HX7.out (by have := HB.out; omega)).mono ?_
    rintro e _ ⟨s1, rfl, hs1, rfl⟩
    obtain rfl : s1 = s := bytes_ext (hs1.uniq HS.out)
    clear hs1
    go_wp2_with fail
    refine (wbytes_any w.heap.size w.heap.size l v7 (HWK.out v7 HC7.out) (by have := HB.out; omega)).mono ?_
    rintro e _ ⟨s2, rfl, hs2, rfl⟩
    obtain rfl : s2 = s1 := bytes_ext (hs2.uniq HS.out)
    clear hs2
    go_wp2_with fail
    refine (len_any v1.heap.size v1.heap.size l v7 HX7.out).mono ?_
    rintro e _ ⟨rfl, rfl⟩
    rw [HB.out]
    go_wp2_with fail
    refine (known_any v7).mono ?_
    rintro e v8 ⟨rfl, hx⟩
    go_wp2_with fail
    go_ret
    exact ⟨rfl, (HX1.out.trans (HC7.out.to_ext (Nat.le_refl _))).trans hx⟩
  · refine (put_bad ⟨w.heap.size, 0, none⟩ u n v0 hu (by omega) (by omega) (by rw [Int.toNat_natCast]; exact fun h => hf h.2.2)).mono ?_
    rintro e v1 ⟨rfl, rfl⟩
    have hf2 : ¬ u < 2 ^ k := fun h => hf (Nat.lt_of_lt_of_le h (Nat.pow_le_pow_right (by omega) hkn))
    go_wp2_with fail
    refine (put_bad ⟨v0.heap.size, 0, none⟩ u k _ hu (by omega) (by omega) (by rw [Int.toNat_natCast]; exact fun h => hf2 h.2.2)).mono ?_
    rintro e v2 ⟨rfl, rfl⟩
    go_wp2_with fail
    refine (known_any _).mono ?_
    rintro e v3 ⟨rfl, hx⟩
    go_wp2_with fail
    go_ret
    exact ⟨rfl, (HX0.out.trans (Ext.alloc v0 _)).trans hx⟩


set_option maxHeartbeats 4000000 in
theorem bitsAgain_any (s : ByteArray) (c : Nat) (w : World) (h1 : s.size ≤ 9223372036854775807) (hc : c < 65536) :
    Calls Try.prog 7 #[.string s, .int .u16 c] w fun e w' => e = .returned (.bool true) ∧ Ext w w' := by
  by_cases hs : s.size ≤ 200
  · obtain ⟨k, hk⟩ : ∃ k, k = c % (8 * s.size + 1) := ⟨_, rfl⟩
    have hkn : k ≤ 8 * s.size := by have := Nat.mod_lt c (show 8 * s.size + 1 > 0 by omega); omega
    have hkI : (c : Int) % (8 * (s.size : Int) + 1) = (k : Int) := by rw [hk]; push_cast; rfl
    have hk1 : (c : Int) % (8 * (s.size : Int) + 1) ≤ 8 * (s.size : Int) := by omega
    have hk0 : 0 ≤ (c : Int) % (8 * (s.size : Int) + 1) := by omega
    have hNI : 8 * (s.size : Int) = ((8 * s.size : Nat) : Int) := by omega
    have HNI := Lib.hid hNI
    have HKI := Lib.hid hkI
    clear hNI hk hkI
    go_enter Try.func7, Try.ntmps7
    go_wp2_with fail
    rw [HKI.out, HNI.out]
    clear hk1 hk0 HKI HNI
    have HP := Lib.hid (packed_bits s)
    generalize hn : 8 * s.size = n at *
    have hn8 : n ≤ 8 * s.size := by omega
    have HN8 := Lib.hid hn
    clear hn
    refine (read_ok s n w hn8 (by omega)).mono ?_
    rintro e v1 ⟨rfl, hr1, hx1⟩
    have hw2 := Wr.new v1 w.heap.size hx1.size
    have HR2 := Lib.hid (hr1.ext (Ext.alloc v1 (.cells #[.slice none 0 0, .int .i64 0] 26)))
    have HC2 : Hid (Chg w.heap.size [26, 5, 55] w (v1.alloc (.cells #[.slice none 0 0, .int .i64 0] 26))) := Lib.hid (Chg.of_ext (hx1.trans (Ext.alloc _ _)))
    have HW2 := Lib.hid hw2
    clear hr1 hx1 hw2
    go_wp2_with fail
    generalize v1.alloc (.cells #[.slice none 0 0, .int .i64 0] 26) = v2 at *
    generalize hg : v1.heap.size = g at *
    clear hg
    go_loopw [10] (fun i wr => ∃ a : Nat, a ≤ n ∧ i = .int .i64 (a : Int) ∧ Wr w.heap.size wr g (bitsAt s 0 a) ∧ Rdr wr w.heap.size s n a ∧ Chg w.heap.size [26, 5, 55] w wr) (fun i _ => n - (intOf i).toNat)
    case atStart => exact ⟨0, by omega, rfl, HW2.out, HR2.out, HC2.out⟩
    case round =>
      obtain ⟨a, ha, rfl, hw, hr, hc⟩ := hrel
      have HW := Lib.hid hw
      have HR := Lib.hid hr
      have HC := Lib.hid hc
      clear hw hr hc
      by_cases h3 : a < n
      · have hI1 : (n : Int) - (a : Int) = ((n - a : Nat) : Int) := by omega
        by_cases h4 : (64 : Int) ≤ (n : Int) - (a : Int)
        · by_cases h5 : a < k
          · have hI2 : (k : Int) - (a : Int) = ((k - a : Nat) : Int) := by omega
            have HI1 := Lib.hid hI1
            have HI2 := Lib.hid hI2
            clear hI1 hI2
            by_cases h6 : (64 : Int) ≤ (k : Int) - (a : Int)
            · go_wp2_with fail
              rw [(show (64 : Int) = ((64 : Nat) : Int) from rfl)]
              refine (get_ok w.heap.size w.heap.size s n a (64) wr HR.out hn8 (by omega) (by omega) (by omega) (Nat.le_refl _)).mono ?_
              rintro e v4 ⟨rfl, hr4, hc4⟩
              have HR4 := Lib.hid hr4
              have HC4 := Lib.hid (HC.out.trans (hc4.mono (by simp)))
              have HW4 := Lib.hid (HW.out.chg hc4 (by decide) (by decide))
              clear hr4 hc4
              have hnq : num (bitsAt s a (64)) < 2 ^ (64) := by
                have := num_lt (bitsAt s a (64))
                rw [bitsAt_length] at this; exact this
              have hbq : bitsOf (num (bitsAt s a (64))) (64) = bitsAt s a (64) := by
                have := bitsOf_num (bitsAt s a (64))
                rw [bitsAt_length] at this; exact this
              have HNQ := Lib.hid hnq
              have HBQ := Lib.hid hbq
              clear hnq hbq
              generalize num (bitsAt s a (64)) = x at *
              go_wp2_with fail
              refine (put_ok w.heap.size g (bitsAt s 0 a) x (64) v4 HW4.out (by omega) HNQ.out (by rw [bitsAt_length]; omega) HC4.out.size).mono ?_
              rintro e v5 ⟨rfl, hw5, hc5⟩
              rw [HBQ.out, ← bitsAt_add] at hw5
              have HW5 := Lib.hid hw5
              have HC5 := Lib.hid (HC4.out.trans (hc5.mono (by simp)))
              have HR5 := Lib.hid (HR4.out.chg hc5 (by decide))
              clear hw5 hc5
              go_wp2_with fail
              go_roundw
              case rel => exact ⟨a + (64), by omega, by push_cast; rfl, HW5.out, HR5.out, HC5.out⟩
              case measure => simp [intOf]; omega
            · have h7 : (k : Int) - (a : Int) < 64 := by omega
              go_wp2_with fail
              rw [HI2.out]
              refine (get_ok w.heap.size w.heap.size s n a (k - a) wr HR.out hn8 (by omega) (by omega) (by omega) (Nat.le_refl _)).mono ?_
              rintro e v4 ⟨rfl, hr4, hc4⟩
              have HR4 := Lib.hid hr4
              have HC4 := Lib.hid (HC.out.trans (hc4.mono (by simp)))
              have HW4 := Lib.hid (HW.out.chg hc4 (by decide) (by decide))
              clear hr4 hc4
              have hnq : num (bitsAt s a (k - a)) < 2 ^ (k - a) := by
                have := num_lt (bitsAt s a (k - a))
                rw [bitsAt_length] at this; exact this
              have hbq : bitsOf (num (bitsAt s a (k - a))) (k - a) = bitsAt s a (k - a) := by
                have := bitsOf_num (bitsAt s a (k - a))
                rw [bitsAt_length] at this; exact this
              have HNQ := Lib.hid hnq
              have HBQ := Lib.hid hbq
              clear hnq hbq
              generalize num (bitsAt s a (k - a)) = x at *
              go_wp2_with fail
              refine (put_ok w.heap.size g (bitsAt s 0 a) x (k - a) v4 HW4.out (by omega) HNQ.out (by rw [bitsAt_length]; omega) HC4.out.size).mono ?_
              rintro e v5 ⟨rfl, hw5, hc5⟩
              rw [HBQ.out, ← bitsAt_add] at hw5
              have HW5 := Lib.hid hw5
              have HC5 := Lib.hid (HC4.out.trans (hc5.mono (by simp)))
              have HR5 := Lib.hid (HR4.out.chg hc5 (by decide))
              clear hw5 hc5
              go_wp2_with fail
              go_roundw
              case rel => exact ⟨a + (k - a), by omega, by push_cast; rfl, HW5.out, HR5.out, HC5.out⟩
              case measure => simp [intOf]; omega
          · have h5' : k ≤ a := by omega
            have HI1 := Lib.hid hI1
            clear hI1
            go_wp2_with fail
            rw [(show (64 : Int) = ((64 : Nat) : Int) from rfl)]
            refine (get_ok w.heap.size w.heap.size s n a (64) wr HR.out hn8 (by omega) (by omega) (by omega) (Nat.le_refl _)).mono ?_
            rintro e v4 ⟨rfl, hr4, hc4⟩
            have HR4 := Lib.hid hr4
            have HC4 := Lib.hid (HC.out.trans (hc4.mono (by simp)))
            have HW4 := Lib.hid (HW.out.chg hc4 (by decide) (by decide))
            clear hr4 hc4
            have hnq : num (bitsAt s a (64)) < 2 ^ (64) := by
              have := num_lt (bitsAt s a (64))
              rw [bitsAt_length] at this; exact this
            have hbq : bitsOf (num (bitsAt s a (64))) (64) = bitsAt s a (64) := by
              have := bitsOf_num (bitsAt s a (64))
              rw [bitsAt_length] at this; exact this
            have HNQ := Lib.hid hnq
            have HBQ := Lib.hid hbq
            clear hnq hbq
            generalize num (bitsAt s a (64)) = x at *
            go_wp2_with fail
            refine (put_ok w.heap.size g (bitsAt s 0 a) x (64) v4 HW4.out (by omega) HNQ.out (by rw [bitsAt_length]; omega) HC4.out.size).mono ?_
            rintro e v5 ⟨rfl, hw5, hc5⟩
            rw [HBQ.out, ← bitsAt_add] at hw5
            have HW5 := Lib.hid hw5
            have HC5 := Lib.hid (HC4.out.trans (hc5.mono (by simp)))
            have HR5 := Lib.hid (HR4.out.chg hc5 (by decide))
            clear hw5 hc5
            go_wp2_with fail
            go_roundw
            case rel => exact ⟨a + (64), by omega, by push_cast; rfl, HW5.out, HR5.out, HC5.out⟩
            case measure => simp [intOf]; omega
        · have h4' : (n : Int) - (a : Int) < 64 := by omega
          have HI1 := Lib.hid hI1
          clear hI1
          by_cases h5 : a < k
          · have hI2 : (k : Int) - (a : Int) = ((k - a : Nat) : Int) := by omega
            have HI2 := Lib.hid hI2
            clear hI2
            by_cases h6 : (n : Int) - (a : Int) ≤ (k : Int) - (a : Int)
            · go_wp2_with fail
              rw [HI1.out]
              refine (get_ok w.heap.size w.heap.size s n a (n - a) wr HR.out hn8 (by omega) (by omega) (by omega) (Nat.le_refl _)).mono ?_
              rintro e v4 ⟨rfl, hr4, hc4⟩
              have HR4 := Lib.hid hr4
              have HC4 := Lib.hid (HC.out.trans (hc4.mono (by simp)))
              have HW4 := Lib.hid (HW.out.chg hc4 (by decide) (by decide))
              clear hr4 hc4
              have hnq : num (bitsAt s a (n - a)) < 2 ^ (n - a) := by
                have := num_lt (bitsAt s a (n - a))
                rw [bitsAt_length] at this; exact this
              have hbq : bitsOf (num (bitsAt s a (n - a))) (n - a) = bitsAt s a (n - a) := by
                have := bitsOf_num (bitsAt s a (n - a))
                rw [bitsAt_length] at this; exact this
              have HNQ := Lib.hid hnq
              have HBQ := Lib.hid hbq
              clear hnq hbq
              generalize num (bitsAt s a (n - a)) = x at *
              go_wp2_with fail
              refine (put_ok w.heap.size g (bitsAt s 0 a) x (n - a) v4 HW4.out (by omega) HNQ.out (by rw [bitsAt_length]; omega) HC4.out.size).mono ?_
              rintro e v5 ⟨rfl, hw5, hc5⟩
              rw [HBQ.out, ← bitsAt_add] at hw5
              have HW5 := Lib.hid hw5
              have HC5 := Lib.hid (HC4.out.trans (hc5.mono (by simp)))
              have HR5 := Lib.hid (HR4.out.chg hc5 (by decide))
              clear hw5 hc5
              go_wp2_with fail
              go_roundw
              case rel => exact ⟨a + (n - a), by omega, by push_cast; rfl, HW5.out, HR5.out, HC5.out⟩
              case measure => simp [intOf]; omega
            · have h7 : (k : Int) - (a : Int) < (n : Int) - (a : Int) := by omega
              go_wp2_with fail
              rw [HI2.out]
              refine (get_ok w.heap.size w.heap.size s n a (k - a) wr HR.out hn8 (by omega) (by omega) (by omega) (Nat.le_refl _)).mono ?_
              rintro e v4 ⟨rfl, hr4, hc4⟩
              have HR4 := Lib.hid hr4
              have HC4 := Lib.hid (HC.out.trans (hc4.mono (by simp)))
              have HW4 := Lib.hid (HW.out.chg hc4 (by decide) (by decide))
              clear hr4 hc4
              have hnq : num (bitsAt s a (k - a)) < 2 ^ (k - a) := by
                have := num_lt (bitsAt s a (k - a))
                rw [bitsAt_length] at this; exact this
              have hbq : bitsOf (num (bitsAt s a (k - a))) (k - a) = bitsAt s a (k - a) := by
                have := bitsOf_num (bitsAt s a (k - a))
                rw [bitsAt_length] at this; exact this
              have HNQ := Lib.hid hnq
              have HBQ := Lib.hid hbq
              clear hnq hbq
              generalize num (bitsAt s a (k - a)) = x at *
              go_wp2_with fail
              refine (put_ok w.heap.size g (bitsAt s 0 a) x (k - a) v4 HW4.out (by omega) HNQ.out (by rw [bitsAt_length]; omega) HC4.out.size).mono ?_
              rintro e v5 ⟨rfl, hw5, hc5⟩
              rw [HBQ.out, ← bitsAt_add] at hw5
              have HW5 := Lib.hid hw5
              have HC5 := Lib.hid (HC4.out.trans (hc5.mono (by simp)))
              have HR5 := Lib.hid (HR4.out.chg hc5 (by decide))
              clear hw5 hc5
              go_wp2_with fail
              go_roundw
              case rel => exact ⟨a + (k - a), by omega, by push_cast; rfl, HW5.out, HR5.out, HC5.out⟩
              case measure => simp [intOf]; omega
          · have h5' : k ≤ a := by omega
            go_wp2_with fail
            rw [HI1.out]
            refine (get_ok w.heap.size w.heap.size s n a (n - a) wr HR.out hn8 (by omega) (by omega) (by omega) (Nat.le_refl _)).mono ?_
            rintro e v4 ⟨rfl, hr4, hc4⟩
            have HR4 := Lib.hid hr4
            have HC4 := Lib.hid (HC.out.trans (hc4.mono (by simp)))
            have HW4 := Lib.hid (HW.out.chg hc4 (by decide) (by decide))
            clear hr4 hc4
            have hnq : num (bitsAt s a (n - a)) < 2 ^ (n - a) := by
              have := num_lt (bitsAt s a (n - a))
              rw [bitsAt_length] at this; exact this
            have hbq : bitsOf (num (bitsAt s a (n - a))) (n - a) = bitsAt s a (n - a) := by
              have := bitsOf_num (bitsAt s a (n - a))
              rw [bitsAt_length] at this; exact this
            have HNQ := Lib.hid hnq
            have HBQ := Lib.hid hbq
            clear hnq hbq
            generalize num (bitsAt s a (n - a)) = x at *
            go_wp2_with fail
            refine (put_ok w.heap.size g (bitsAt s 0 a) x (n - a) v4 HW4.out (by omega) HNQ.out (by rw [bitsAt_length]; omega) HC4.out.size).mono ?_
            rintro e v5 ⟨rfl, hw5, hc5⟩
            rw [HBQ.out, ← bitsAt_add] at hw5
            have HW5 := Lib.hid hw5
            have HC5 := Lib.hid (HC4.out.trans (hc5.mono (by simp)))
            have HR5 := Lib.hid (HR4.out.chg hc5 (by decide))
            clear hw5 hc5
            go_wp2_with fail
            go_roundw
            case rel => exact ⟨a + (n - a), by omega, by push_cast; rfl, HW5.out, HR5.out, HC5.out⟩
            case measure => simp [intOf]; omega
      · obtain rfl : a = n := by omega
        go_wp2_with fail
        refine (wbytes_any w.heap.size g _ wr HW.out (by rw [bitsAt_length]; omega)).mono ?_
        rintro e _ ⟨s1, rfl, hs1, rfl⟩
        obtain rfl : s1 = s := bytes_ext (hs1.uniq HP.out)
        clear hs1
        go_wp2_with fail
        refine (len_any w.heap.size g _ wr HW.out).mono ?_
        rintro e _ ⟨rfl, rfl⟩
        rw [bitsAt_length]
        go_wp2_with fail
        refine (left_any w.heap.size s1 a a wr HR.out (Nat.le_refl _) (by omega)).mono ?_
        rintro e v4 ⟨rfl, hx⟩
        have hx4 : Ext w v4 := (HC.out.to_ext (Nat.le_refl _)).trans (ext_drew hx)
        clear hx
        rw [Int.sub_self]
        go_wp2_with fail
        refine (known_any v4).mono ?_
        rintro e v5 ⟨rfl, h4⟩
        go_wp2_with fail
        go_ret
        exact ⟨rfl, hx4.trans h4⟩
  · have hs2 : 200 < s.size := by omega
    go_enter Try.func7, Try.ntmps7
    go_wp2_with fail
    refine (known_any w).mono ?_
    rintro e w1 ⟨rfl, hx⟩
    go_wp2_with fail
    go_ret
    exact ⟨rfl, hx⟩
end Go.Proofs.Ytehkalncofbbhaa
