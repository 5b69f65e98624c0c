/- The document's answer: are items a reply; an item's bytes, a reply's bytes; are two replies alike. -/
import Derived.Test.YtdbboooblbdihaaRspQ
namespace Go.Proofs.Ytdbboooblbdihaa
open Go.RowKit
set_option linter.unusedVariables false
set_option linter.unusedSectionVars false
set_option linter.unusedSimpArgs false
set_option maxRecDepth 100000


set_option maxHeartbeats 1000000 in
theorem rRight_any (v : Value) (xs : List Itm) (w : World) (hv : Row itC w v xs) (hok : ∀ x ∈ xs, ItmOk x) (hl : xs.length ≤ 1000000000) :
    Calls Try.prog 23 #[v] w fun e w' => e = .returned (.bool (decide (rightL xs))) ∧ Ext w w' := by
  obtain ⟨A, n, c, rfl, hn, hnc, hcm, hr⟩ := hv
  subst hn
  have HR := Lib.hid hr
  have HOK := Lib.hid hok
  clear hr hok
  go_enter Try.func23, Try.ntmps23
  go_wp2_with fail
  go_loopw [3, 4] (fun wv iv wr => ∃ (k W : Nat), k ≤ xs.length ∧ wv = .int .i64 (W : Int) ∧ iv = .int .i64 (k : Int) ∧ wantA 1 xs = wantA W (xs.drop k) ∧ W ≤ 1 + 100000 * k ∧ Ext w wr) (fun _ iv _ => xs.length - (intOf iv).toNat)
  case atStart => exact ⟨0, 1, by omega, rfl, rfl, rfl, by omega, Ext.refl _⟩
  case round =>
    obtain ⟨k, W, hk, rfl, rfl, hwa, hWb, hx⟩ := hrel
    have HX := Lib.hid hx
    have HWA := Lib.hid hwa
    clear hx hwa
    by_cases hkn : k < xs.length
    · have hkI : (k : Int) < (xs.length : Int) := by omega
      have hkJ : (0 : Int) ≤ (k : Int) := by omega
      obtain ⟨x, hxk⟩ : ∃ x, xs[k]? = some x := ⟨_, List.getElem?_eq_getElem hkn⟩
      have hox := HOK.out x (List.mem_of_getElem? hxk)
      have hrd := HR.out.ext HX.out
      obtain ⟨ad, rfl⟩ := row_some hrd itC_len (by decide) (by omega)
      obtain ⟨c0, c1, c2⟩ := row_parts hrd hxk
      have HC := Lib.hid (fun wz (hz : Ext wr wz) => And.intro (hz.cell c0) (hz.cell c1))
      have HXK := Lib.hid hxk
      have hox0 := Lib.hid hox
      have HRA := Lib.hid (one_any x)
      clear hrd hxk
      obtain ⟨kd, xn, s⟩ := x
      unfold itV at HRA
      dsimp only at c0 c1 c2 HRA HC
      have hdr := List.drop_eq_getElem_cons hkn
      have hgx : xs[k] = ⟨kd, xn, s⟩ := by
        have := HXK.out
        rw [List.getElem?_eq_getElem hkn] at this
        injection this
      rw [hgx] at hdr
      have hwa := HWA.out
      rw [hdr, wantA_cons] at hwa
      clear hdr hgx hox HWA
      by_cases hW0 : W = 0
      · subst hW0
        rw [if_pos rfl] at hwa
        have HWA := Lib.hid hwa
        clear hwa
        go_wp2_with fail
        go_ret
        exact ⟨ret_f (by unfold rightL; rw [HWA.out]; simp), HX.out⟩
      · have hWB : ((W : Int) == 0) = false := by simp; omega
        rw [if_neg hW0] at hwa
        have HWA := Lib.hid hwa
        clear hwa
        go_wp2_with fail
        refine (HRA.out wr hox0.out).mono ?_
        rintro e w2 ⟨rfl, hx2⟩
        have HX2 := Lib.hid (HX.out.trans hx2)
        obtain ⟨d0, d1⟩ := HC.out _ hx2
        clear c0 c1 c2 hx2
        by_cases hrt : right1 ⟨kd, xn, s⟩
        · rw [decide_eq_true hrt]
          have hwa := HWA.out
          rw [if_pos hrt] at hwa
          by_cases h6 : kd = 6
          · subst h6
            rw [if_pos rfl] at hwa
            obtain ⟨N, rfl, hN⟩ : ∃ N : Nat, xn = (N : Int) ∧ N ≤ 100000 := by
              rcases hrt with ⟨h, _⟩ | ⟨h, _⟩ | ⟨h, _⟩ | ⟨h, _⟩ | ⟨_, _, h1, h2⟩
              · exfalso; dsimp only at h; omega
              · exfalso; dsimp only at h; omega
              · exfalso; dsimp only at h; omega
              · exfalso; dsimp only at h; omega
              · dsimp only at h1 h2
                exact ⟨xn.toNat, by omega, by omega⟩
            have hwa2 : wantA 1 xs = wantA (W - 1 + N) (xs.drop (k + 1)) := hwa
            have HWN := Lib.hid hwa2
            clear hwa hwa2 HWA
            go_wp2_with fail
            go_roundw
            case rel => exact ⟨k + 1, W - 1 + N, by omega, by go_num, by go_num, HWN.out, by omega, HX2.out⟩
            case measure => simp [intOf]; omega
          · have h6B : (kd == 6) = false := by simpa using h6
            rw [if_neg h6] at hwa
            have hwa2 : wantA 1 xs = wantA (W - 1) (xs.drop (k + 1)) := hwa
            have HWN := Lib.hid hwa2
            clear hwa hwa2 HWA
            go_wp2_with fail
            go_roundw
            case rel => exact ⟨k + 1, W - 1, by omega, by go_num, by go_num, HWN.out, by omega, HX2.out⟩
            case measure => simp [intOf]; omega
        · rw [decide_eq_false hrt]
          have hwa := HWA.out
          rw [if_neg hrt] at hwa
          have HWA := Lib.hid hwa
          clear hwa
          go_wp2_with fail
          go_ret
          exact ⟨ret_f (by unfold rightL; rw [HWA.out]; simp), HX2.out⟩
    · obtain rfl : k = xs.length := by omega
      have hwa := HWA.out
      rw [List.drop_length, wantA_nil] at hwa
      have HWA := Lib.hid hwa
      clear hwa
      go_wp2_with fail
      go_ret
      refine ⟨?_, HX.out⟩
      by_cases hW0 : W = 0
      · subst hW0
        exact ret_t (by unfold rightL; rw [HWA.out])
      · show Ending.returned (.bool ((W : Int) == 0)) = _
        rw [show ((W : Int) == 0) = false by simp; omega]
        exact ret_f (by unfold rightL; rw [HWA.out]; simpa using hW0)
theorem ritem_1 (n : Int) (s : ByteArray) (w : World) (hs : s.size ≤ 1000000000) :
    Calls Try.prog 41 #[.agg #[.int .i64 1, .int .i64 n, .string s]] w fun e w' => e = .returned (.string (bsv (itL ⟨1, n, s⟩))) ∧ Ext w w' := by
  have hA0 : (⟨#[43]⟩ : ByteArray) ++ s ++ ⟨#[13, 10]⟩ = bsv (itL ⟨1, n, s⟩) := bytes_ext (by rw [itL_1, toList_append2, toList_append2, bsv_list, crlf_toList, show (⟨#[43]⟩ : ByteArray).toList = [43] from toList_mk [43]]; rfl)
  have HA := Lib.hid hA0
  have hb1 : ¬ (9223372036854775807 < 1 + s.size) := by omega
  have hb2 : ¬ (9223372036854775807 < 1 + s.size + 2) := by omega
  clear hA0
  go_enter Try.func41, Try.ntmps41
  go_wp2_with fail
  go_ret
  rw [← HA.out]
  exact ⟨rfl, Ext.alloc _ _⟩
theorem ritem_2 (n : Int) (s : ByteArray) (w : World) (hs : s.size ≤ 1000000000) :
    Calls Try.prog 41 #[.agg #[.int .i64 2, .int .i64 n, .string s]] w fun e w' => e = .returned (.string (bsv (itL ⟨2, n, s⟩))) ∧ Ext w w' := by
  have hA0 : (⟨#[45]⟩ : ByteArray) ++ s ++ ⟨#[13, 10]⟩ = bsv (itL ⟨2, n, s⟩) := bytes_ext (by rw [itL_2, toList_append2, toList_append2, bsv_list, crlf_toList, show (⟨#[45]⟩ : ByteArray).toList = [45] from toList_mk [45]]; rfl)
  have HA := Lib.hid hA0
  have hb1 : ¬ (9223372036854775807 < 1 + s.size) := by omega
  have hb2 : ¬ (9223372036854775807 < 1 + s.size + 2) := by omega
  clear hA0
  go_enter Try.func41, Try.ntmps41
  go_wp2_with fail
  go_ret
  rw [← HA.out]
  exact ⟨rfl, Ext.alloc _ _⟩
theorem ritem_o (k n : Int) (s : ByteArray) (w : World) (h1 : -9223372036854775808 ≤ n) (h2 : n ≤ 9223372036854775807) (k1 : ¬ k = 1) (k2 : ¬ k = 2) (k3 : ¬ k = 3) (k4 : ¬ k = 4) (k5 : ¬ k = 5) :
    Calls Try.prog 41 #[.agg #[.int .i64 k, .int .i64 n, .string s]] w fun e w' => e = .returned (.string (bsv (itL ⟨k, n, s⟩))) ∧ Ext w w' := by
  have hA0 : bsv ((⟨#[42]⟩ : ByteArray).toList ++ decL n ++ crlf) = bsv (itL ⟨k, n, s⟩) := by rw [itL_o n s k1 k2 k3 k4 k5, show (⟨#[42]⟩ : ByteArray).toList = [42] from toList_mk [42]]; rfl
  generalize bsv (itL ⟨k, n, s⟩) = F at hA0 ⊢
  have HA := Lib.hid hA0
  have HL := Lib.hid (fun wz => rline_any ⟨#[42]⟩ n wz (by show 1 ≤ _; omega) h1 h2)
  clear hA0 h1 h2
  go_enter Try.func41, Try.ntmps41
  go_wp2_with fail
  refine (HL.out _).mono ?_
  rintro e w2 ⟨rfl, hx2⟩
  rw [HA.out]
  have HX := Lib.hid ((Ext.alloc _ _).trans hx2)
  clear hx2
  go_wp2_with fail
  go_ret
  exact ⟨rfl, HX.out⟩
theorem ritem_3 (n : Int) (s : ByteArray) (w : World) (h1 : -9223372036854775808 ≤ n) (h2 : n ≤ 9223372036854775807) :
    Calls Try.prog 41 #[.agg #[.int .i64 3, .int .i64 n, .string s]] w fun e w' => e = .returned (.string (bsv (itL ⟨3, n, s⟩))) ∧ Ext w w' := by
  have hA0 : bsv ((⟨#[58]⟩ : ByteArray).toList ++ decL n ++ crlf) = bsv (itL ⟨3, n, s⟩) := by rw [itL_3, show (⟨#[58]⟩ : ByteArray).toList = [58] from toList_mk [58]]; rfl
  generalize bsv (itL ⟨3, n, s⟩) = F at hA0 ⊢
  have HA := Lib.hid hA0
  have HL := Lib.hid (fun wz => rline_any ⟨#[58]⟩ n wz (by show 1 ≤ _; omega) h1 h2)
  clear hA0 h1 h2
  go_enter Try.func41, Try.ntmps41
  go_wp2_with fail
  refine (HL.out _).mono ?_
  rintro e w2 ⟨rfl, hx2⟩
  rw [HA.out]
  have HX := Lib.hid ((Ext.alloc _ _).trans hx2)
  clear hx2
  go_wp2_with fail
  go_ret
  exact ⟨rfl, HX.out⟩
theorem ritem_5 (n : Int) (s : ByteArray) (w : World) :
    Calls Try.prog 41 #[.agg #[.int .i64 5, .int .i64 n, .string s]] w fun e w' => e = .returned (.string (bsv (itL ⟨5, n, s⟩))) ∧ Ext w w' := by
  have hA0 : bsv (itL ⟨5, n, s⟩) = ⟨#[36, 45, 49, 13, 10]⟩ := by rw [itL_5]; rfl
  rw [hA0]
  clear hA0
  go_enter Try.func41, Try.ntmps41
  go_wp2_with fail
  go_ret
  exact ⟨rfl, Ext.alloc _ _⟩
theorem ritem_4 (n : Int) (s : ByteArray) (w : World) (hs : s.size ≤ 1000000000) :
    Calls Try.prog 41 #[.agg #[.int .i64 4, .int .i64 n, .string s]] w fun e w' => e = .returned (.string (bsv (itL ⟨4, n, s⟩))) ∧ Ext w w' := by
  obtain ⟨sb, hsb⟩ : ∃ sb, bsv ((⟨#[36]⟩ : ByteArray).toList ++ decL (s.size : Int) ++ crlf) = sb := ⟨_, rfl⟩
  have hz1 : sb.size ≤ 30 := by
    have := decL_size2 (n := (s.size : Int)) (by omega) (by omega)
    rw [← hsb, bsv_size, show (⟨#[36]⟩ : ByteArray).toList = [36] from toList_mk [36]]
    simp [crlf]
    omega
  have hap : sb ++ s ++ ⟨#[13, 10]⟩ = bsv (itL ⟨4, n, s⟩) := bytes_ext (by
    rw [itL_4, toList_append2, toList_append2, bsv_list, crlf_toList, ← hsb, bsv_list, bulkL_parts, show (⟨#[36]⟩ : ByteArray).toList = [36] from toList_mk [36]])
  have HSB := Lib.hid hsb
  have HAP := Lib.hid hap
  have hb2 : ¬ (9223372036854775807 < sb.size + s.size) := by omega
  have hb4 : ¬ (9223372036854775807 < sb.size + s.size + 2) := by omega
  clear hap hsb
  go_enter Try.func41, Try.ntmps41
  go_upto_region 9 with fail
  have hx1 := Ext.alloc w (.cells #[.int .i64 4, .int .i64 n, .string s] 74)
  have hb := heap_alloc_new w (.cells #[.int .i64 4, .int .i64 n, .string s] 74 (0, 0))
  generalize w.alloc (.cells #[.int .i64 4, .int .i64 n, .string s] 74) = w1 at hx1 hb ⊢
  generalize w.heap.size = q at hb ⊢
  have d2 : w1.cell? ⟨q, 2, none⟩ = some (.string s) := heap_cell hb 2
  have HC := Lib.hid (fun wz (hz : Ext w1 wz) => hz.cell d2)
  have HX1 := Lib.hid hx1
  clear hx1 hb
  go_region_held3 (fun wz => wz.cell? ⟨q, 2, none⟩ = some (.string s)) (first | assumption | exact HC.out _ hx5w) (first
    | (go_at_call 37
       refine (rline_any ⟨#[36]⟩ (s.size : Int) w1.drew (by show 1 ≤ _; omega) (by omega) (by omega)).mono ?_
       rintro e w3 ⟨rfl, hx3⟩
       rw [HSB.out]
       have HX3 := Lib.hid ((Ext.drew w1).trans hx3)
       have hx5w := HX3.out
       clear hx3))
  go_wp2_with fail
  go_ret
  rw [← HAP.out]
  exact ⟨rfl, HX1.out.trans HX3.out⟩
theorem ritem_any (x : Itm) (w : World) (hx : ItmOk x) (hs : x.s.size ≤ 1000000000) : Calls Try.prog 41 #[itV x] w fun e w' => e = .returned (.string (bsv (itL x))) ∧ Ext w w' := by
  obtain ⟨k, n, s⟩ := x
  obtain ⟨_, _, hn1, hn2, _⟩ := hx
  dsimp only at hn1 hn2 hs
  by_cases h1 : k = 1
  · subst h1; exact ritem_1 n s w hs
  by_cases h2 : k = 2
  · subst h2; exact ritem_2 n s w hs
  by_cases h3 : k = 3
  · subst h3; exact ritem_3 n s w hn1 hn2
  by_cases h4 : k = 4
  · subst h4; exact ritem_4 n s w hs
  by_cases h5 : k = 5
  · subst h5; exact ritem_5 n s w
  exact ritem_o k n s w hn1 hn2 h1 h2 h3 h4 h5
set_option maxHeartbeats 1000000 in
theorem rencode_any (v : Value) (xs : List Itm) (w : World) (hv : Row itC w v xs) (hok : ∀ x ∈ xs, ItmOk x) (hl : xs.length ≤ 1000000) :
    Calls Try.prog 26 #[v] w fun e w' => e = .returned (.string (encB xs)) ∧ Ext w w' := by
  have HRT := Lib.hid (rRight_any v xs w hv hok (by omega))
  obtain ⟨A, n, c, rfl, hn, hnc, hcm, hr⟩ := hv
  subst hn
  have HR := Lib.hid hr
  have HOK := Lib.hid hok
  clear hr hok
  go_enter Try.func26, Try.ntmps26
  go_wp2_with fail
  refine HRT.out.mono ?_
  rintro e w0 ⟨rfl, hx0⟩
  have HX0 := Lib.hid hx0
  clear hx0 HRT
  by_cases hrt : rightL xs
  · rw [decide_eq_true hrt]
    have HB : Hid (encB xs = bsv (encL xs)) := Lib.hid (if_pos hrt)
    have HRX := Lib.hid (want_right _ _ _ hrt)
    clear hrt
    go_wp2_with fail
    go_loopw [3, 4] (fun sv iv wr => ∃ k : Nat, k ≤ xs.length ∧ iv = .int .i64 (k : Int) ∧ sv = .string (bsv (encL (xs.take k))) ∧ Ext w wr) (fun _ iv _ => xs.length - (intOf iv).toNat)
    case atStart => exact ⟨0, by omega, rfl, rfl, HX0.out⟩
    case round =>
      obtain ⟨k, hk, rfl, rfl, hx⟩ := hrel
      have HX := Lib.hid hx
      clear hx HX0
      by_cases hkn : k < xs.length
      · have hkI : (k : Int) < (xs.length : Int) := by omega
        have hkJ : (0 : Int) ≤ (k : Int) := by omega
        obtain ⟨x, hxk⟩ : ∃ x, xs[k]? = some x := ⟨_, List.getElem?_eq_getElem hkn⟩
        have hox := HOK.out x (List.mem_of_getElem? hxk)
        have hrx := HRX.out x (List.mem_of_getElem? hxk)
        have hrd := HR.out.ext HX.out
        obtain ⟨ad, rfl⟩ := row_some hrd itC_len (by decide) (by omega)
        obtain ⟨c0, c1, c2⟩ := row_parts hrd hxk
        have HIB := Lib.hid (fun wz => ritem_any x wz hox (by have := right_size hrx; omega))
        have hz1 : (bsv (itL x)).size ≤ 540 := by rw [bsv_size]; exact itL_len hrx hox
        have hz2 : (bsv (encL (xs.take k))).size ≤ 540000000 := by
          have := encL_len (xs.take k) (fun y hy => HRX.out y (List.mem_of_mem_take hy)) (fun y hy => HOK.out y (List.mem_of_mem_take hy))
          rw [List.length_take] at this
          rw [bsv_size]
          omega
        have hap : bsv (encL (xs.take k)) ++ bsv (itL x) = bsv (encL (xs.take (k + 1))) := by rw [bsv_app, encL_snoc hxk]
        have HAP := Lib.hid hap
        clear hrd hxk hox hrx hap
        obtain ⟨sb, hsb⟩ : ∃ sb, bsv (itL x) = sb := ⟨_, rfl⟩
        rw [hsb] at HIB hz1 HAP
        clear hsb
        generalize bsv (encL (xs.take k)) = sa at hz2 HAP ⊢
        obtain ⟨kd, xn, s⟩ := x
        unfold itV at HIB
        dsimp only at c0 c1 c2 HIB
        have hb1 : ¬ (9223372036854775807 < sa.size + sb.size) := by omega
        go_wp2_with fail
        refine (HIB.out wr).mono ?_
        rintro e w2 ⟨rfl, hx2⟩
        have HX2 := Lib.hid (HX.out.trans hx2)
        clear c0 c1 c2 hx2
        go_wp2_with fail
        go_roundw
        case rel => exact ⟨k + 1, by omega, by go_num, by rw [HAP.out], HX2.out⟩
        case measure => simp [intOf]; omega
      · obtain rfl : k = xs.length := by omega
        rw [List.take_length]
        generalize bsv (encL xs) = F at HB ⊢
        go_wp2_with fail
        go_ret
        rw [HB.out]
        exact ⟨rfl, HX.out⟩
  · rw [decide_eq_false hrt]
    have HB : Hid (encB xs = ⟨#[]⟩) := Lib.hid (if_neg hrt)
    clear hrt
    go_wp2_with fail
    go_ret
    rw [HB.out]
    exact ⟨rfl, HX0.out⟩
end Go.Proofs.Ytdbboooblbdihaa
