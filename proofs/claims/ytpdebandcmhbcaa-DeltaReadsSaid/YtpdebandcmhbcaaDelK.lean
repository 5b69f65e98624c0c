/- Layer 2: known. -/
import Derived.Test.YtpdebandcmhbcaaDelD
import Derived.Test.YtpdebandcmhbcaaDelS
namespace Go.Proofs.Ytpdebandcmhbcaa
open Go.RowKit Bit
set_option linter.unusedVariables false

def kl : List Smp := [(10, 7), (20, 7), (30, 7)]
def kB : List UInt8 := [0, 0, 0, 0, 0, 0, 0, 10, 0, 0, 0, 0, 0, 0, 0, 7, 138, 0]
theorem kl_len : (encB kl).length = 140 := by decide +kernel
theorem kl_packed : Packed (encB kl) kB := packed_of (by decide +kernel)
theorem kl_dec3 : decR ⟨⟨kB⟩⟩ 140 3 = (kl, 0) := by decide +kernel
theorem kl_dec4 : decR ⟨⟨kB⟩⟩ 140 4 = ([], 3) := by decide +kernel
theorem kl_dec2 : decR ⟨⟨kB⟩⟩ 140 2 = ([], 4) := by decide +kernel
theorem kl_ok : ∀ x ∈ kl, SmpOk x := by
  intro x hx
  simp [kl] at hx
  rcases hx with rfl | rfl | rfl <;> constructor <;> decide
theorem k5_packed : Packed ([] ++ codeB 5) [130, 128] := packed_of (by decide +kernel)
theorem k5_len : ([] ++ codeB 5).length = 9 := by decide +kernel
theorem k5_get : getB (bitsAt ⟨#[130, 128]⟩ 0 (9 - 0)) = (5, 9, 0) := by decide +kernel
theorem k5_get2 : getB (bitsAt ⟨#[130, 128]⟩ (0 + 9) (9 - (0 + 9))) = (0, 0, 3) := by decide +kernel
theorem k0_get : getB (bitsAt ⟨#[128, 0]⟩ 0 (9 - 0)) = (0, 0, 4) := by decide +kernel
theorem k_size : sizeN 128 = 15 := by decide +kernel
set_option maxRecDepth 100000 in
set_option maxHeartbeats 4000000 in
theorem known_any (w : World) : Calls Try.prog 10 #[] w fun e w' => e = .returned (.bool true) ∧ Ext w w' := by
  go_enter Try.func10, Try.ntmps10
  go_wp2_with fail
  have hrow : Row smpC (w.alloc (.cells #[.int .i64 10, .int .i64 7, .int .i64 20, .int .i64 7, .int .i64 30, .int .i64 7] 59)) (.slice (some ⟨w.heap.size, 0, none⟩) 3 3) kl := ⟨_, 3, 3, rfl, rfl, by omega, by simp [maxLen], Rd.new w #[_, _, _, _, _, _] 59⟩
  have HX0 := Lib.hid (Ext.alloc w (.cells #[.int .i64 10, .int .i64 7, .int .i64 20, .int .i64 7, .int .i64 30, .int .i64 7] 59))
  generalize w.alloc (.cells #[.int .i64 10, .int .i64 7, .int .i64 20, .int .i64 7, .int .i64 30, .int .i64 7] 59) = v0 at hrow HX0 ⊢
  generalize hsv : (Value.slice (some ⟨w.heap.size, 0, none⟩) 3 3) = sv at hrow ⊢
  have HR0 := Lib.hid hrow
  have HSV := Lib.hid hsv
  clear hrow hsv
  refine (enc_any sv kl v0 HR0.out kl_ok (by decide)).mono ?_
  rintro e v1 ⟨s, rfl, hs, hx⟩
  obtain rfl : s = ⟨⟨kB⟩⟩ := bytes_ext ((hs.uniq kl_packed).trans (toList_mk kB).symm)
  rw [kl_len]
  have HR1 := Lib.hid (HR0.out.ext hx)
  have HX1 := Lib.hid (HX0.out.trans hx)
  clear hs hx HR0 HX0
  go_wp2_with fail
  refine (dec_any ⟨⟨kB⟩⟩ 140 3 v1 (by decide) (by decide) (by decide)).mono ?_
  rintro e v2 ⟨d3, rfl, hrow, hx⟩
  rw [kl_dec3] at hrow ⊢
  have HD := Lib.hid hrow
  have HR2 := Lib.hid (HR1.out.ext hx)
  have HX2 := Lib.hid (HX1.out.trans hx)
  clear hrow hx HR1 HX1
  go_wp2_with fail
  refine (dec_any ⟨⟨kB⟩⟩ 140 4 v2 (by decide) (by decide) (by decide)).mono ?_
  rintro e v3 ⟨d4, rfl, _, hx⟩
  rw [kl_dec4]
  have HD3 := Lib.hid (HD.out.ext hx)
  have HR3 := Lib.hid (HR2.out.ext hx)
  have HX3 := Lib.hid (HX2.out.trans hx)
  clear hx HR2 HX2 HD
  go_wp2_with fail
  refine (dec_any ⟨⟨kB⟩⟩ 140 2 v3 (by decide) (by decide) (by decide)).mono ?_
  rintro e v4 ⟨d2, rfl, _, hx⟩
  rw [kl_dec2]
  have HD4 := Lib.hid (HD3.out.ext hx)
  have HR4 := Lib.hid (HR3.out.ext hx)
  have HX4 := Lib.hid (HX3.out.trans hx)
  clear hx HR3 HX3 HD3
  go_wp2_with fail
  refine (dec_bad ⟨⟨kB⟩⟩ 140 (-1) v4 (by decide) (by decide) (by decide) (by decide) (by decide) (.inr (.inl (by decide)))).mono ?_
  rintro e v5 ⟨rfl, hx⟩
  have HD5 := Lib.hid (HD4.out.ext hx)
  have HR5 := Lib.hid (HR4.out.ext hx)
  have HX5 := Lib.hid (HX4.out.trans hx)
  clear hx HR4 HX4 HD4
  go_wp2_with fail
  have HW6 := Lib.hid (Wr.new v5 v5.heap.size (Nat.le_refl _))
  have HC6 := Lib.hid (Chg.of_ext (B := v5.heap.size) (S := [28, 5, 77]) (Ext.alloc v5 (.cells #[.slice none 0 0, .int .i64 0] 28)))
  generalize v5.alloc (.cells #[.slice none 0 0, .int .i64 0] 28) = v6 at HW6 HC6 ⊢
  refine (dput_any v5.heap.size v5.heap.size [] 5 v6 HW6.out (by decide) (by decide) HC6.out.size).mono ?_
  rintro e v7 ⟨rfl, hw7, hc7⟩
  have HW7 := Lib.hid hw7
  have HC7 := Lib.hid (HC6.out.trans (hc7.mono (by simp)))
  clear hw7 hc7 HW6 HC6
  go_wp2_with fail
  refine (wbytes_any _ _ _ v7 HW7.out (by decide)).mono ?_
  rintro e _ ⟨s, rfl, hs, rfl⟩
  obtain rfl : s = ⟨#[130, 128]⟩ := bytes_ext ((hs.uniq k5_packed).trans (toList_mk [130, 128]).symm)
  clear hs
  go_wp2_with fail
  refine (len_any _ _ _ v7 HW7.out).mono ?_
  rintro e _ ⟨rfl, rfl⟩
  rw [k5_len]
  go_wp2_with fail
  refine (read_ok ⟨#[130, 128]⟩ 9 v7 (by decide) (by decide)).mono ?_
  rintro e v8 ⟨rfl, hr8, hx8⟩
  obtain ⟨g, hg⟩ : ∃ g, g = v7.heap.size := ⟨_, rfl⟩
  rw [← hg] at hr8 ⊢
  have hB : v5.heap.size ≤ g := by rw [hg]; exact HC7.out.size
  have HR8 := Lib.hid hr8
  have HC8 := Lib.hid (HC7.out.then hx8)
  have HW8 := Lib.hid (HW7.out.ext hx8)
  clear hr8 hx8 hg HW7 HC7
  go_wp2_with fail
  refine (dget_any v5.heap.size g ⟨#[130, 128]⟩ 9 0 v8 HR8.out (by decide) (by decide) (by decide) (by decide) hB).mono ?_
  rintro e v9 ⟨u, m, y, rfl, hg, hr, hc⟩
  rw [k5_get] at hg
  injection hg with e1 hg; injection hg with e2 e3
  subst e1 e2 e3
  have HR9 := Lib.hid hr
  have HC9 := Lib.hid (HC8.out.trans (hc.mono (by simp)))
  have HW9 := Lib.hid (HW8.out.chg hc (by decide) (by decide))
  clear hr hc HR8 HC8 HW8
  go_wp2_with fail
  refine (dget_any v5.heap.size g ⟨#[130, 128]⟩ 9 (0 + 9) v9 HR9.out (by decide) (by decide) (by decide) (by decide) hB).mono ?_
  rintro e v10 ⟨u, m, y, rfl, hg, hr, hc⟩
  rw [k5_get2] at hg
  injection hg with e1 hg; injection hg with e2 e3
  subst e1 e2 e3
  have HC10 := Lib.hid (HC9.out.trans (hc.mono (by simp)))
  have HW10 := Lib.hid (HW9.out.chg hc (by decide) (by decide))
  clear hr hc HR9 HC9 HW9
  go_wp2_with fail
  refine (read_ok ⟨#[128, 0]⟩ 9 v10 (by decide) (by decide)).mono ?_
  rintro e v11 ⟨rfl, hr11, hx11⟩
  obtain ⟨g2, hg2⟩ : ∃ g, g = v10.heap.size := ⟨_, rfl⟩
  rw [← hg2] at hr11 ⊢
  have hB2 : v5.heap.size ≤ g2 := by rw [hg2]; exact HC10.out.size
  have HR11 := Lib.hid hr11
  have HC11 := Lib.hid (HC10.out.then hx11)
  have HW11 := Lib.hid (HW10.out.ext hx11)
  clear hr11 hx11 hg2 HW10 HC10
  go_wp2_with fail
  refine (dget_any v5.heap.size g2 ⟨#[128, 0]⟩ 9 0 v11 HR11.out (by decide) (by decide) (by decide) (by decide) hB2).mono ?_
  rintro e v12 ⟨u, m, y, rfl, hg, hr, hc⟩
  rw [k0_get] at hg
  injection hg with e1 hg; injection hg with e2 e3
  subst e1 e2 e3
  have HC12 := Lib.hid (HC11.out.trans (hc.mono (by simp)))
  have HW12 := Lib.hid (HW11.out.chg hc (by decide) (by decide))
  have HE12 := Lib.hid (HC12.out.to_ext (Nat.le_refl _))
  clear hr hc HR11 HC11 HW11
  go_wp2_with fail
  refine (same_any d3 sv kl kl v12 (HD5.out.ext HE12.out) (HR5.out.ext HE12.out)).mono ?_
  rintro e v13 ⟨rfl, hx⟩
  rw [decide_eq_true rfl]
  have HW13 := Lib.hid (HW12.out.ext hx)
  have HE13 := Lib.hid (HE12.out.trans hx)
  clear hx
  go_wp2_with fail
  refine (wbytes_any _ _ _ v13 HW13.out (by decide)).mono ?_
  rintro e _ ⟨s, rfl, hs, rfl⟩
  obtain rfl : s = ⟨#[130, 128]⟩ := bytes_ext ((hs.uniq k5_packed).trans (toList_mk [130, 128]).symm)
  clear hs
  go_wp2_with fail
  refine (size_any 128 v13 (by decide)).mono ?_
  rintro e v14 ⟨rfl, hx⟩
  rw [k_size]
  have HE14 := Lib.hid (HE13.out.trans hx)
  clear hx
  go_wp2_with fail
  refine (dbits_any sv kl v14 (HR5.out.ext HE14.out) kl_ok (by decide)).mono ?_
  rintro e v15 ⟨rfl, hx⟩
  rw [kl_len]
  have HE15 := Lib.hid (HE14.out.trans hx)
  clear hx
  go_wp2_with fail
  go_ret
  exact ⟨rfl, HX5.out.trans HE15.out⟩
end Go.Proofs.Ytpdebandcmhbcaa
