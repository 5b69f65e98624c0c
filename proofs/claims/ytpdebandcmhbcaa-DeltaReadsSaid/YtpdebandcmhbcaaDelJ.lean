/- The statement DeltaWrites, walked. -/
import Derived.Test.YtpdebandcmhbcaaDelL
namespace Go.Proofs.Ytpdebandcmhbcaa
open Go.RowKit Bit
set_option linter.unusedVariables false

theorem packed_eq {l : List Bool} {a b : ByteArray} (h : Packed l a.toList) (k : Packed l b.toList) : b = a := by
  have := h.uniq k
  rw [Lib.toList_data, Lib.toList_data] at this
  obtain ⟨⟨x⟩⟩ := a
  obtain ⟨⟨y⟩⟩ := b
  simp at this
  rw [this]
set_option maxRecDepth 100000 in
set_option maxHeartbeats 8000000 in
theorem deltaWrites_any (u : Nat) (v : Value) (l : List Smp) (w : World) (hu : u < 18446744073709551616) (h : Row smpC w v l) (hok : ∀ x ∈ l, SmpOk x) :
    Calls Try.prog 3 #[.int .u64 (u : Int), v] w fun e w' => e = .returned (.bool true) ∧ Ext w w' := by
  have HV := Lib.hid h
  obtain ⟨A, n, c, rfl, hn, hnc, hc, hr⟩ := h
  have HN := Lib.hid hn
  have HOK := Lib.hid hok
  have HU := Lib.hid hu
  clear hn hok hc hr hu
  have HX0 := Lib.hid (Ext.refl w)
  by_cases h60 : (n : Int) ≤ 60
  · have hn60 : n ≤ 60 := by omega
    go_enter Try.func3, Try.ntmps3
    go_wp2_with fail
    have HW1 := Lib.hid (Wr.new w w.heap.size (Nat.le_refl _))
    have HX1 := Lib.hid (Ext.alloc w (.cells #[.slice none 0 0, .int .i64 0] 28))
    generalize w.alloc (.cells #[.slice none 0 0, .int .i64 0] 28) = w1 at HW1 HX1 ⊢
    refine (dput_any w.heap.size w.heap.size [] u w1 HW1.out HU.out (by simp) HX1.out.size).mono ?_
    rintro e v2 ⟨rfl, hw2, hc2⟩
    rw [List.nil_append] at hw2
    have HW2 := Lib.hid hw2
    have HX2 := Lib.hid (ext_own HX1.out hc2)
    clear hw2 hc2
    go_wp2_with fail
    refine (rCode_any u v2 HU.out).mono ?_
    rintro e v3 ⟨xc, rfl, hbo, hx⟩
    obtain ⟨A1, n1, c1, rfl, hn1, hnc1, hcm1, hr1⟩ := hbo
    have HN1 := Lib.hid hn1
    have HR1 := Lib.hid hr1
    have HW3 := Lib.hid (HW2.out.ext hx)
    have HX3 := Lib.hid (HX2.out.trans hx)
    clear hx hr1 hn1
    go_wp2_with fail
    refine (enc_any _ l v3 (HV.out.ext HX3.out) HOK.out (by have := HN.out; omega)).mono ?_
    rintro e v4 ⟨s, rfl, hs, hx⟩
    have HS := Lib.hid hs
    have HR2 := Lib.hid (HR1.out.ext hx)
    have HW4 := Lib.hid (HW3.out.ext hx)
    have HX4 := Lib.hid (HX3.out.trans hx)
    clear hs hx
    go_wp2_with fail
    refine (rEnc_any _ l v4 (HV.out.ext HX4.out) HOK.out (by have := HN.out; omega)).mono ?_
    rintro e v5 ⟨xb, rfl, hbo, hx⟩
    obtain ⟨A2, n2, c2, rfl, hn2, hnc2, hcm2, hr2⟩ := hbo
    have HN2 := Lib.hid hn2
    have HE5 := Lib.hid hr2
    have HR5 := Lib.hid (HR2.out.ext hx)
    have HW5 := Lib.hid (HW4.out.ext hx)
    have HX5 := Lib.hid (HX4.out.trans hx)
    clear hx hr2 hn2
    have hsz : sizeN u = n1 := by rw [← codeB_len]; exact HN1.out
    have hel : (encB l).length = n2 := HN2.out
    have hel2 := encB_len l
    have hnl := HN.out
    go_wp2_with fail
    refine (wbytes_any w.heap.size w.heap.size (codeB u) v5 HW5.out (by have := size_le u; rw [codeB_len]; omega)).mono ?_
    rintro e _ ⟨s1, rfl, hs1, rfl⟩
    have HS1 := Lib.hid hs1
    clear hs1
    go_wp2_with fail
    refine (rBytes_any _ (codeB u) v5 ⟨A1, n1, c1, rfl, HN1.out, hnc1, hcm1, HR5.out⟩ (by have := size_le u; rw [codeB_len]; omega)).mono ?_
    rintro e v6 ⟨s2, rfl, hs2, hx⟩
    obtain rfl := packed_eq HS1.out hs2
    have HW6 := Lib.hid (HW5.out.ext hx)
    have HE6 := Lib.hid (HE5.out.ext hx)
    have HX6 := Lib.hid (HX5.out.trans hx)
    clear hx hs2
    go_wp2_with fail
    refine (len_any w.heap.size w.heap.size (codeB u) v6 HW6.out).mono ?_
    rintro e _ ⟨rfl, rfl⟩
    rw [HN1.out]
    go_wp2_with fail
    refine (size_any u v6 HU.out).mono ?_
    rintro e v7 ⟨rfl, hx⟩
    try rw [hsz]
    have HE7 := Lib.hid (HE6.out.ext hx)
    have HX7 := Lib.hid (HX6.out.trans hx)
    clear hx
    go_wp2_with fail
    refine (rBytes_any _ (encB l) v7 ⟨A2, n2, c2, rfl, HN2.out, hnc2, hcm2, HE7.out⟩ (by omega)).mono ?_
    rintro e v8 ⟨s3, rfl, hs3, hx⟩
    obtain rfl := packed_eq HS.out hs3
    have HX8 := Lib.hid (HX7.out.trans hx)
    clear hx hs3
    try rw [hel]
    go_wp2_with fail
    refine (dbits_any _ l v8 (HV.out.ext HX8.out) HOK.out (by omega)).mono ?_
    rintro e v10 ⟨rfl, hx⟩
    try rw [hel]
    have HX10 := Lib.hid (HX8.out.trans hx)
    clear hx
    go_wp2_with fail
    refine (dput_nil (u : Int) v10).mono ?_
    rintro e _ ⟨rfl, rfl⟩
    go_wp2_with fail
    refine (known_any _).mono ?_
    rintro e v9 ⟨rfl, hx⟩
    go_wp2_with fail
    go_ret
    exact ⟨rfl, HX10.out.trans hx⟩
  · have h61 : (60 : Int) < (n : Int) := by omega
    go_enter Try.func3, Try.ntmps3
    go_wp2_with fail
    refine (known_any _).mono ?_
    rintro e v9 ⟨rfl, hx⟩
    go_wp2_with fail
    go_ret
    exact ⟨rfl, HX0.out.trans hx⟩
end Go.Proofs.Ytpdebandcmhbcaa
