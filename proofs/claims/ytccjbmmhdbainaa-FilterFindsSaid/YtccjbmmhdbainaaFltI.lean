/- FilterFinds walked. -/
import Derived.Test.YtccjbmmhdbainaaFltB
import Derived.Test.YtccjbmmhdbainaaFltX
namespace Go.Proofs.Ytccjbmmhdbainaa
open Go.RowKit Sets
set_option linter.unusedVariables false
set_option linter.unusedSectionVars false
set_option linter.unusedSimpArgs false
set_option maxRecDepth 100000

set_option maxHeartbeats 20000000 in
theorem filterFinds_any (u1 u2 : Value) (xs : List IOp) (ts : List Tm) (w : World) (h1 : Row opC w u1 xs) (hok : ∀ o ∈ xs, IOpOk w o) (h2 : Tms w u2 ts) (hto : ∀ t ∈ ts, TmOk t) :
    Calls Try.prog 5 #[u1, u2] w fun e w' => e = .returned (.bool true) ∧ Ext w w' := by
  obtain ⟨i1, hi1, hz3, hz4, hz5⟩ := info_parts Try.trInfo
  obtain ⟨es, ⟨A, n, c, rfl, hn, hnc, hc, hr⟩, hes⟩ := h2
  have hc' : c ≤ 9223372036854775807 := by simpa [maxLen] using hc
  have HR := Lib.hid hr
  have HN := Lib.hid hn
  have HE := Lib.hid hes
  have HTO := Lib.hid hto
  have HH1 := Lib.hid h1
  have HOK := Lib.hid hok
  clear hr hn hes hto h1 hok hc
  go_enter Try.func5, Try.ntmps5
  go_wp2_with fail
  refine (fbuild_any u1 xs w HH1.out HOK.out).mono ?_
  rintro e w1 ⟨x, L, r, M, rfl, hpx, hml⟩
  have HP := Lib.hid hpx
  have HML := Lib.hid hml
  clear hpx hml
  go_upto_region 2 with fail
  by_cases hn20 : n ≤ 20
  · have h20I : decide ((20 : Int) < (n : Int)) = false := decide_eq_false (by omega)
    have h20J : decide (20 < n) = false := decide_eq_false (by omega)
    go_wp2_with fail
    go_loopw [7, 8] (fun o iv wr => ∃ (k : Nat) (fs : List TmE), k ≤ n ∧ iv = .int .i64 (k : Int) ∧ wr.ownsRow w1.heap.size 30 3 o fs.length (fs.flatMap tmC) ∧ TmsT w fs (ts.take k) ∧ (∀ t ∈ ts.take k, t.vals.length ≤ 30) ∧ Ext w1 wr) (fun _ iv _ => n - (intOf iv).toNat)
    case atStart => exact ⟨0, [], by omega, rfl, World.ownsRow_nil _ _ _ _, TmsT.nil _, by simp, Ext.refl _⟩
    case round =>
      obtain ⟨k, fs, hk, rfl, hown, hfs, hli, hx⟩ := hrel
      have HO := Lib.hid hown
      have HF := Lib.hid hfs
      have HLI := Lib.hid hli
      have HX := Lib.hid hx
      have HX0 := Lib.hid (HP.out.gx.ext.trans hx)
      clear hown hli hx
      by_cases hkn : k < n
      · have hkI : (k : Int) < (n : Int) := by omega
        have hkJ : (0 : Int) ≤ (k : Int) := by omega
        obtain ⟨t, ht⟩ : ∃ x, ts[k]? = some x := ⟨_, List.getElem?_eq_getElem (by have := HN.out; have := HE.out.1; omega)⟩
        obtain ⟨e, he, hat⟩ := HE.out.at_ ht
        obtain ⟨ad, rfl⟩ : ∃ ad, A = some ad := row_some HR.out tmC_len (by decide) (by have := HN.out; omega)
        obtain ⟨c0, c1, c2⟩ := tme_cells (HR.out.ext HX0.out) he
        have HTK := Lib.hid (take_snoc ht)
        have HFL : Hid (fs.length ≤ 1000) := Lib.hid (by
          have h1 := hfs.1
          rw [List.length_take] at h1
          omega)
        have HTM := Lib.hid (hfs.app (TmsT.one hat))
        have HTC := Lib.hid (fun wz (hw : Ext w wz) => tme_cells (HR.out.ext hw) he)
        obtain ⟨en, et, ea, el, ec⟩ := e
        obtain ⟨tn, tt, tv⟩ := t
        obtain ⟨rfl, rfl, hvl⟩ := hat
        dsimp only at c0 c1 c2 hvl HTC
        have HVL := Lib.hid hvl
        clear ht he hvl hfs HF
        go_wp2_with fail
        refine (tlight_any ⟨en, et, tv⟩ (.slice ea el ec) wr (HVL.out.ext HX0.out)).mono ?_
        rintro e w5 ⟨⟨b, rfl, hb⟩, hx⟩
        have HB := Lib.hid hb
        have HX5 := Lib.hid (HX.out.trans hx)
        have HX50 := Lib.hid (HX0.out.trans hx)
        have HO5 := Lib.hid (own_later HO.out hx)
        clear c0 c1 c2 hb hx
        obtain ⟨c0, c1, c2⟩ := HTC.out w5 HX50.out
        cases b with
        | false =>
          go_wp2_with fail
          refine (known_any _).mono ?_
          rintro e v9 ⟨rfl, hx9⟩
          go_wp2_with fail
          go_ret
          exact ⟨rfl, HX50.out.trans hx9⟩
        | true =>
          go_wp2_with fail
          refine (plain_any ⟨en, et, tv⟩ (.slice ea el ec) w5 (HVL.out.ext HX50.out)).mono ?_
          rintro e w6 ⟨rfl, hx⟩
          simp only [tmV]
          have HX6 := Lib.hid (HX5.out.trans hx)
          have HO6 := Lib.hid (own_later HO5.out hx)
          clear hx c0 c1 c2
          have hx6 : Ext w6 (w6.alloc (.cells #[.string en, .bool et, .slice ea el ec] 30)) := Ext.alloc w6 _
          go_wp2_with (first
            | (at_builtin
               refine app_row tmC_len tmC_one _ rfl (.tmp 39) (.tmp 45) 47 30 rfl i1 (.agg #[.string ByteArray.empty, .bool false, .slice none 0 0]) 48 Try.underlying47 hi1 hz3 hz4 hz5 rfl (by decide) (by decide) w1.heap.size _ fs rfl (by exact own_later HO6.out hx6) (Nat.le_trans HX6.out.size hx6.size) (some ⟨w6.heap.size, 0, none⟩) 1 1 [⟨en, et, ea, el, ec⟩] rfl rfl (by exact Rd.new w6 #[_, _, _] 30) (by have := HFL.out; simp only [List.length_singleton]; omega) ?_
               intro v7 w7 hown7 hchg7
               have HO7 := Lib.hid hown7
               have HX7 := Lib.hid (((Chg.of_ext (HX6.out.trans hx6)).trans hchg7).to_ext (Nat.le_refl _))
               clear hchg7 hown7))
          go_roundw
          case rel => exact ⟨k + 1, fs ++ [⟨en, et, ea, el, ec⟩], by omega, by go_num, HO7.out, by rw [HTK.out]; exact HTM.out, by
              rw [HTK.out]
              intro t ht
              rcases List.mem_append.1 ht with ht | ht
              · exact HLI.out t ht
              · obtain rfl := List.mem_singleton.1 ht
                exact (HB.out trivial).1, HX7.out⟩
          case measure => simp [intOf]; omega
      · obtain rfl : k = n := by omega
        have HTK : Hid (ts.take k = ts) := Lib.hid (List.take_of_length_le (by rw [← HE.out.1, HN.out]; exact Nat.le_refl _))
        have HM2 : Hid (∀ w', Ext wr w' → Tms w' u7 ts) := Lib.hid (fun w' hw => ⟨fs, (own_row HO.out).ext hw, by rw [← HTK.out]; exact HF.out.ext (HX0.out.trans hw)⟩)
        have HM1 : Hid (∀ w', Ext wr w' → Tms w' (.slice A k c) ts) := Lib.hid (fun w' hw => ⟨es, ⟨A, k, c, rfl, HN.out, hnc, by simpa [maxLen] using hc', HR.out.ext (HX0.out.trans hw)⟩, HE.out.ext (HX0.out.trans hw)⟩)
        have HKK : Hid (∀ t ∈ ts, TmOk t ∧ t.vals.length ≤ 1000) := Lib.hid (fun t ht => ⟨HTO.out t ht, by have := HLI.out t (by rw [HTK.out]; exact ht); omega⟩)
        have HPX := Lib.hid (HP.out.later HX.out)
        clear hfs
        go_wp2_with fail
        refine (findT_any _ M ts (.slice A k c) wr (.inr ⟨x, L, _, rfl, HPX.out.gx.at_⟩) (by have := HML.out; omega) (HM1.out wr (Ext.refl _)) HKK.out).mono ?_
        rintro e v5 ⟨s5, rfl, hs5, hx5⟩
        have HS5 := Lib.hid hs5
        have HX5 := Lib.hid hx5
        clear hs5 hx5
        go_wp2_with fail
        refine (rfindT_any r M ts u7 v5 (HPX.out.ref.ext HX5.out) (by have := HML.out; omega) (HM2.out v5 HX5.out)).mono ?_
        rintro e v6 ⟨s6, rfl, hs6, hx6⟩
        have HS6 := Lib.hid hs6
        have HX6 := Lib.hid hx6
        clear hs6 hx6
        go_wp2_with fail
        refine (same_yes s5 s6 _ _ v6 (HS5.out.ext HX6.out) HS6.out rfl).mono ?_
        rintro e v7 ⟨rfl, hx7⟩
        have HX7 := Lib.hid (HX5.out.trans (HX6.out.trans hx7))
        clear hx7
        go_wp2_with fail
        refine (findT_any (.pointer none) [] ts (.slice A k c) v7 (.inl ⟨rfl, rfl⟩) (by simp) (HM1.out v7 HX7.out) HKK.out).mono ?_
        rintro e v8 ⟨s8, rfl, hs8, hx8⟩
        obtain ⟨A8, n8, c8, rfl, hn8, _⟩ := hs8
        obtain rfl : n8 = 0 := by
          have := Nat.le_zero.1 (show (foundBy [] ts).length ≤ 0 from found_len [] ts)
          omega
        have HX8 := Lib.hid (HX0.out.trans (HX7.out.trans hx8))
        clear hn8 hx8
        go_wp2_with fail
        refine (known_any _).mono ?_
        rintro e v9 ⟨rfl, hx9⟩
        go_wp2_with fail
        go_ret
        exact ⟨rfl, HX8.out.trans hx9⟩
  · have h20I : decide ((20 : Int) < (n : Int)) = true := decide_eq_true (by omega)
    have h20J : decide (20 < n) = true := decide_eq_true (by omega)
    clear hn20
    go_wp2_with fail
    refine (known_any _).mono ?_
    rintro e v9 ⟨rfl, hx9⟩
    go_wp2_with fail
    go_ret
    exact ⟨rfl, HP.out.gx.ext.trans hx9⟩
end Go.Proofs.Ytccjbmmhdbainaa
