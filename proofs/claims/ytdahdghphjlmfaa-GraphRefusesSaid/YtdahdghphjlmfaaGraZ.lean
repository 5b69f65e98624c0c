/- GraphOf walked. -/
import Derived.Test.YtdahdghphjlmfaaGraO
namespace Go.Proofs.Ytdahdghphjlmfaa
open Go.RowKit Sets Gra
set_option linter.unusedVariables false


set_option maxRecDepth 100000 in
set_option maxHeartbeats 60000000 in
theorem graphOf_any (v : Value) (xs : List GOp) (w : World) (h : Row opC w v xs) (hok : ∀ o ∈ xs, GOpOk o) :
    Calls Try.prog 7 #[v] w fun e w' => e = .returned (.bool true) ∧ Ext w w' := by
  obtain ⟨i1, hi1, hz3, hz4, hz5⟩ := info_parts Try.ruleInfo
  obtain ⟨A, n, c, rfl, hn, hnc, hc, hr⟩ := h
  have hc' : c ≤ 9223372036854775807 := by simpa [maxLen] using hc
  have HR := Lib.hid hr
  have HN := Lib.hid hn
  have HOK := Lib.hid hok
  clear hr hn hok hc
  go_enter Try.func7, Try.ntmps7
  go_wp2_with fail
  refine (new_any w).mono ?_
  rintro e v2 ⟨g, rfl, hg, hx⟩
  have HG2 := Lib.hid (⟨hg, hx⟩ : Gx w v2 g [])
  clear hg hx
  go_wp2_with fail
  go_loopw [4] (fun i wr => ∃ (k : Nat) (L : List Rule), k ≤ n ∧ k ≤ 40 ∧ i = .int .i64 (k : Int) ∧ Gx w wr g L ∧ L.length ≤ k ∧ Cm v2 wr) (fun i _ => n - (intOf i).toNat)
  case atStart => exact ⟨0, [], by omega, by omega, rfl, HG2.out, by simp, Cm.refl _⟩
  case round =>
    obtain ⟨k, L, hk, hk40, rfl, hgx, hlen, hcm⟩ := hrel
    have HG := Lib.hid hgx
    have HCM := Lib.hid hcm
    clear hgx hcm
    by_cases hkn : k < n
    · by_cases hk4 : k < 40
      · obtain ⟨ad, rfl⟩ : ∃ ad, A = some ad := row_some HR.out opC_len (by decide) (by have := HN.out; omega)
        obtain ⟨o, hx⟩ : ∃ o, xs[k]? = some o := ⟨_, List.getElem?_eq_getElem (by have := HN.out; omega)⟩
        have HC := Lib.hid (fun wz (hw : Ext w wz) => gop_cells (HR.out.ext hw) hx)
        obtain ⟨c0, c1, c2, c3, c4, c5⟩ := HC.out wr HG.out.ext
        have hro := (HOK.out o (List.mem_of_getElem? hx)).r
        have HRQ := Lib.hid hro
        obtain ⟨kd, q⟩ := o
        obtain ⟨qs, qd, qk, qz, qa⟩ := q
        clear hro hx
        go_wp2_with fail
        clear c0 c1 c2 c3 c4 c5
        refine (light_any ⟨qs, qd, qk, qz, qa⟩ wr HRQ.out).mono ?_
        rintro e v3 ⟨rfl, hx⟩
        have HCM3 := Lib.hid (HCM.out.trans (Cm.of_ext hx))
        have HG3 := Lib.hid (HG.out.later hx)
        clear HG hx HCM
        cases hlt : lightR ⟨qs, qd, qk, qz, qa⟩ with
        | false =>
          clear hlt
          go_wp2_with fail
          go_roundw
          case rel => exact ⟨k + 1, L, by omega, by omega, by go_num, HG3.out, by omega, HCM3.out⟩
          case measure => simp [intOf]; omega
        | true =>
          clear hlt
          obtain ⟨c0, c1, c2, c3, c4, c5⟩ := HC.out v3 HG3.out.ext
          go_wp2_with fail
          clear c0 c1 c2 c3 c4 c5
          refine (add_any w.heap.size g L ⟨qs, qd, qk, qz, qa⟩ v3 HG3.out.at_ (by omega) HRQ.out HG3.out.ext.size).mono ?_
          rintro e v4 ⟨rfl, hd⟩
          have HCM4 := Lib.hid (HCM3.out.trans hd.cm)
          have HG4 := Lib.hid (HG3.out.did hd)
          clear HG3 HCM3 hd
          go_wp2_with fail
          go_roundw
          case rel => exact ⟨k + 1, (addR L ⟨qs, qd, qk, qz, qa⟩).2, by omega, by omega, by go_num, HG4.out, by have := len_addR L ⟨qs, qd, qk, qz, qa⟩; omega, HCM4.out⟩
          case measure => simp [intOf]; omega
      · have hk42 : 40 ≤ k := by omega
        go_wp2_with fail
        refine (all_any w.heap.size g L wr HG.out.at_ (by omega)).mono ?_
        rintro e v4 ⟨u, rfl, hrow, hx⟩
        have HRW := Lib.hid hrow
        obtain ⟨A4, n4, c4, rfl, hn4, hnc4, hc4, hr4⟩ := hrow
        have hc4' : c4 ≤ 9223372036854775807 := by simpa [maxLen] using hc4
        have HN4 := Lib.hid hn4
        have HR4 := Lib.hid hr4
        have HG4 := Lib.hid (HG.out.later hx)
        have HOL := Lib.hid HG.out.at_.ok
        have hn40 : n4 ≤ 40 := by omega
        clear hr4 hn4 hc4 hx HG HCM
        go_wp2_with fail
        go_loopw [6, 7] (fun md i wr => ∃ i' : Nat, i' ≤ n4 ∧ i = .int .i64 (i' : Int) ∧ wr.ownsRow v4.heap.size 31 5 md (madeL L i').length ((madeL L i').flatMap ruleC) ∧ Ext v4 wr) (fun _ i _ => n4 - (intOf i).toNat)
        case atStart => exact ⟨0, by omega, rfl, by rw [madeL_zero]; exact World.ownsRow_nil _ _ _ _, Ext.refl _⟩
        case round =>
          obtain ⟨i, hi, rfl, hmd, hxt⟩ := hrel
          have HMD := Lib.hid hmd
          have HXT := Lib.hid hxt
          clear hmd hxt
          by_cases hin : i < n4
          · obtain ⟨ad4, rfl⟩ : ∃ ad, A4 = some ad := row_some HR4.out ruleC_len (by decide) (by have := HN4.out; omega)
            obtain ⟨q, hq⟩ : ∃ q, L[i]? = some q := ⟨_, List.getElem?_eq_getElem (by have := HN4.out; omega)⟩
            have HQ := Lib.hid hq
            have HC := Lib.hid (fun wz (hw : Ext v4 wz) => rule_cells (HR4.out.ext hw) hq)
            obtain ⟨qs, qd, qk, qz, qa⟩ := q
            obtain ⟨d0, d1, d2, d3, d4⟩ := HC.out wr HXT.out
            obtain ⟨f0, f1, f2, f3, f4⟩ := HC.out (wr.drewN 1) (HXT.out.trans (Ext.drewN _ _))
            clear hq
            go_upto_region 14 with fail
            go_cut [58] from 37 to 83 (fun s58 wx => ∃ b : Bool, s58 = .bool b ∧ (b = true → madeL L (i + 1) = madeL L i ++ ofL L qs) ∧ (b = false → madeL L (i + 1) = madeL L i) ∧ Ext wr wx)
            case first =>
              rcases Nat.eq_zero_or_pos i with hi0 | hi0
              · have HN0 := Lib.hid (madeL_new HOL.out HQ.out (.inl hi0))
                subst hi0
                go_wp2_with fail
                go_quiet (fail)
                go_wp2_with fail
                go_meet
                exact ⟨true, rfl, fun _ => HN0.out, fun h => (by cases h), Ext.drewN _ _⟩
              · obtain ⟨i2, he2⟩ : ∃ i2, i - 1 = i2 := ⟨_, rfl⟩
                obtain ⟨p, hp⟩ : ∃ q, L[i2]? = some q := ⟨_, List.getElem?_eq_getElem (by have := HN4.out; omega)⟩
                obtain ⟨e0, e1, e2, e3, e4⟩ := rule_cells (HR4.out.ext HXT.out) hp
                have hi1 : (i : Int) - 1 = (i2 : Int) := by omega
                have hz : ((i : Int) == 0) = false := by simp; omega
                have hi2n : i2 < n4 := by omega
                have HP : Hid (L[i - 1]? = some p) := Lib.hid (by rw [he2]; exact hp)
                clear hp he2
                by_cases hsr : p.src = qs
                · have HN0 := Lib.hid (madeL_old HQ.out (by omega) HP.out hsr)
                  have hs' : (p.src.toList == qs.toList) = true := by rw [eq_dec]; simpa using hsr
                  have hs2 : (p.src.toList != qs.toList) = false := by rw [bne, hs']; rfl
                  clear hsr
                  go_wp2_with fail
                  go_quiet (fail)
                  go_wp2_with fail
                  go_meet
                  exact ⟨false, rfl, fun h => (by cases h), fun _ => HN0.out, Ext.drewN _ _⟩
                · have HN0 := Lib.hid (madeL_new HOL.out HQ.out (.inr ⟨p, HP.out, hsr⟩))
                  have hs' : (p.src.toList == qs.toList) = false := by rw [eq_dec]; simpa using hsr
                  have hs2 : (p.src.toList != qs.toList) = true := by rw [bne, hs']; rfl
                  clear hsr
                  go_wp2_with fail
                  go_quiet (fail)
                  go_wp2_with fail
                  go_meet
                  exact ⟨true, rfl, fun _ => HN0.out, fun h => (by cases h), Ext.drewN _ _⟩
            case rest =>
              obtain ⟨b, rfl, hb1, hb2, hxc⟩ := hcut
              have HB1 := Lib.hid hb1
              have HB2 := Lib.hid hb2
              have HXC := Lib.hid (HXT.out.trans hxc)
              have HMC := Lib.hid (own_later HMD.out hxc)
              clear hb1 hb2 hxc HXT HMD d0 d1 d2 d3 d4 f0 f1 f2 f3 f4
              obtain ⟨d0, d1, d2, d3, d4⟩ := HC.out wc HXC.out
              go_upto_if 58 with fail
              go_cut [6] from 37 to 83 (fun s6 wx => wx.ownsRow v4.heap.size 31 5 s6 (madeL L (i + 1)).length ((madeL L (i + 1)).flatMap ruleC) ∧ Ext v4 wx)
              case first =>
                cases b with
                | true =>
                  have HNEW := Lib.hid (HB1.out rfl)
                  clear HB1 HB2
                  go_wp2_with fail
                  clear d0 d1 d2 d3 d4
                  have HMD := HMC
                  refine (of_graph w.heap.size g L qs _ (HG4.out.later (HXC.out)).at_ (by omega)).mono ?_
                  rintro e v5 ⟨u5, rfl, hrow, hx⟩
                  obtain ⟨A5, n5, c5, rfl, hn5, hnc5, hc5, hr5⟩ := hrow
                  have hl5 := List.length_filter_le (fun r => decide (r.src = qs)) L
                  have hof : (ofL L qs).length ≤ L.length := hl5
                  rw [hn5] at hof
                  have HX6 := Lib.hid ((HXC.out).trans hx)
                  have HO6 := Lib.hid (own_later HMD.out hx)
                  have HR5 := Lib.hid hr5
                  have HN5 := Lib.hid hn5
                  have hml := madeL_len L i
                  have HL5 := Lib.hid hml
                  clear hx hr5 hn5 hl5 hml
                  go_wp2_with (first
                    | (at_builtin
                       refine app_row ruleC_len ruleC_one _ rfl (.tmp 59) (.tmp 66) 51 31 rfl i1 (.agg #[.string ByteArray.empty, .string ByteArray.empty, .int .i64 0, .int .i64 0, .int .i64 0]) 56 Try.underlying51 hi1 hz3 hz4 hz5 rfl (by decide) (by decide) v4.heap.size _ (madeL L i) rfl (by exact HO6.out) HX6.out.size A5 n5 c5 (ofL L qs) rfl HN5.out HR5.out (by have := HL5.out; have := HN5.out; omega) ?_
                       intro v7 w7 hown7 hchg7
                       have hext7 := ((Chg.of_ext HX6.out).trans hchg7).to_ext (Nat.le_refl _)
                       clear hchg7))
                  go_meet
                  exact ⟨by rw [HNEW.out]; exact hown7, hext7⟩
                | false =>
                  have HOLD := Lib.hid (HB2.out rfl)
                  clear HB1 HB2 d0 d1 d2 d3 d4
                  go_wp2_with fail
                  go_meet
                  exact ⟨by rw [HOLD.out]; exact HMC.out, HXC.out⟩
              case rest =>
                have HM := Lib.hid hcut.1
                have HX5 := Lib.hid hcut.2
                clear hcut
                go_wp2_with fail
                go_loopw [8] (fun j wq => ∃ m : Nat, m ≤ i ∧ j = .int .i64 (m : Int) ∧ Ext wc wq) (fun j _ => i - (intOf j).toNat)
                case atStart => exact ⟨0, by omega, rfl, Ext.refl _⟩
                case round =>
                  obtain ⟨m, hm, rfl, hxt⟩ := hrel
                  have HXM := Lib.hid hxt
                  clear hxt
                  by_cases hmi : m < i
                  · obtain ⟨p, hp⟩ : ∃ q, L[m]? = some q := ⟨_, List.getElem?_eq_getElem (by have := HN4.out; omega)⟩
                    obtain ⟨d0, d1, d2, d3, d4⟩ := rule_cells (HR4.out.ext (HX5.out.trans HXM.out)) HQ.out
                    obtain ⟨e0, e1, e2, e3, e4⟩ := rule_cells (HR4.out.ext (HX5.out.trans HXM.out)) hp
                    have hne := dst_other HOL.out HQ.out hp hmi
                    have hne' : (p.dst.toList == qd.toList) = false := by rw [eq_dec]; simpa using hne
                    clear hne hp d0 d2 d3 d4 e0 e2 e3 e4
                    go_wp2_with fail
                    go_quiet (fail)
                    go_wp2_with fail
                    go_roundw
                    case rel => exact ⟨m + 1, by omega, by go_num, HXM.out.trans (Ext.drewN _ _)⟩
                    case measure => simp [intOf]; omega
                  · obtain rfl : m = i := by omega
                    go_wp2_with fail
                    go_roundw
                    case rel => exact ⟨m + 1, by omega, by go_num, own_later HM.out HXM.out, HX5.out.trans HXM.out⟩
                    case measure => simp [intOf]; omega
          · obtain rfl : i = n4 := by omega
            have hmd2 : wr.ownsRow v4.heap.size 31 5 u6 L.length (L.flatMap ruleC) := by
              have := HMD.out
              rw [← HN4.out, madeL_end] at this
              exact this
            have HR6 := Lib.hid (own_row hmd2)
            have HRW6 := Lib.hid (HRW.out.ext HXT.out)
            clear hmd2 HMD
            go_wp2_with fail
            refine (plain_any u6 L wr HR6.out (by omega)).mono ?_
            rintro e v9 ⟨u9, rfl, hrow, hx⟩
            have HR9 := Lib.hid hrow
            have HRW9 := Lib.hid (HRW6.out.ext hx)
            have HX9 := Lib.hid (HXT.out.trans hx)
            clear hrow hx HR6 HRW6 HXT
            go_wp2_with fail
            refine (plain_any _ L v9 HRW9.out (by omega)).mono ?_
            rintro e v10 ⟨u10, rfl, hrow, hx⟩
            have HR10 := Lib.hid hrow
            have HR10b := Lib.hid (HR9.out.ext hx)
            have HX10 := Lib.hid (HX9.out.trans hx)
            clear hrow hx HR9 HRW9 HX9
            go_wp2_with fail
            refine (same_any u9 u10 L L v10 HR10b.out HR10.out).mono ?_
            rintro e v11 ⟨rfl, hx⟩
            rw [decide_eq_true rfl]
            have HG11 := Lib.hid (HG4.out.later (HX10.out.trans hx))
            clear hx HR10 HR10b HX10
            go_wp2_with fail
            refine (known_any _).mono ?_
            rintro e v9 ⟨rfl, hx⟩
            go_wp2_with fail
            go_ret
            exact ⟨rfl, HG11.out.ext.trans hx⟩
    · go_wp2_with fail
      refine (all_any w.heap.size g L wr HG.out.at_ (by omega)).mono ?_
      rintro e v4 ⟨u, rfl, hrow, hx⟩
      have HRW := Lib.hid hrow
      obtain ⟨A4, n4, c4, rfl, hn4, hnc4, hc4, hr4⟩ := hrow
      have hc4' : c4 ≤ 9223372036854775807 := by simpa [maxLen] using hc4
      have HN4 := Lib.hid hn4
      have HR4 := Lib.hid hr4
      have HG4 := Lib.hid (HG.out.later hx)
      have HOL := Lib.hid HG.out.at_.ok
      have hn40 : n4 ≤ 40 := by omega
      clear hr4 hn4 hc4 hx HG HCM
      go_wp2_with fail
      go_loopw [6, 7] (fun md i wr => ∃ i' : Nat, i' ≤ n4 ∧ i = .int .i64 (i' : Int) ∧ wr.ownsRow v4.heap.size 31 5 md (madeL L i').length ((madeL L i').flatMap ruleC) ∧ Ext v4 wr) (fun _ i _ => n4 - (intOf i).toNat)
      case atStart => exact ⟨0, by omega, rfl, by rw [madeL_zero]; exact World.ownsRow_nil _ _ _ _, Ext.refl _⟩
      case round =>
        obtain ⟨i, hi, rfl, hmd, hxt⟩ := hrel
        have HMD := Lib.hid hmd
        have HXT := Lib.hid hxt
        clear hmd hxt
        by_cases hin : i < n4
        · obtain ⟨ad4, rfl⟩ : ∃ ad, A4 = some ad := row_some HR4.out ruleC_len (by decide) (by have := HN4.out; omega)
          obtain ⟨q, hq⟩ : ∃ q, L[i]? = some q := ⟨_, List.getElem?_eq_getElem (by have := HN4.out; omega)⟩
          have HQ := Lib.hid hq
          have HC := Lib.hid (fun wz (hw : Ext v4 wz) => rule_cells (HR4.out.ext hw) hq)
          obtain ⟨qs, qd, qk, qz, qa⟩ := q
          obtain ⟨d0, d1, d2, d3, d4⟩ := HC.out wr HXT.out
          obtain ⟨f0, f1, f2, f3, f4⟩ := HC.out (wr.drewN 1) (HXT.out.trans (Ext.drewN _ _))
          clear hq
          go_upto_region 14 with fail
          go_cut [58] from 37 to 83 (fun s58 wx => ∃ b : Bool, s58 = .bool b ∧ (b = true → madeL L (i + 1) = madeL L i ++ ofL L qs) ∧ (b = false → madeL L (i + 1) = madeL L i) ∧ Ext wr wx)
          case first =>
            rcases Nat.eq_zero_or_pos i with hi0 | hi0
            · have HN0 := Lib.hid (madeL_new HOL.out HQ.out (.inl hi0))
              subst hi0
              go_wp2_with fail
              go_quiet (fail)
              go_wp2_with fail
              go_meet
              exact ⟨true, rfl, fun _ => HN0.out, fun h => (by cases h), Ext.drewN _ _⟩
            · obtain ⟨i2, he2⟩ : ∃ i2, i - 1 = i2 := ⟨_, rfl⟩
              obtain ⟨p, hp⟩ : ∃ q, L[i2]? = some q := ⟨_, List.getElem?_eq_getElem (by have := HN4.out; omega)⟩
              obtain ⟨e0, e1, e2, e3, e4⟩ := rule_cells (HR4.out.ext HXT.out) hp
              have hi1 : (i : Int) - 1 = (i2 : Int) := by omega
              have hz : ((i : Int) == 0) = false := by simp; omega
              have hi2n : i2 < n4 := by omega
              have HP : Hid (L[i - 1]? = some p) := Lib.hid (by rw [he2]; exact hp)
              clear hp he2
              by_cases hsr : p.src = qs
              · have HN0 := Lib.hid (madeL_old HQ.out (by omega) HP.out hsr)
                have hs' : (p.src.toList == qs.toList) = true := by rw [eq_dec]; simpa using hsr
                have hs2 : (p.src.toList != qs.toList) = false := by rw [bne, hs']; rfl
                clear hsr
                go_wp2_with fail
                go_quiet (fail)
                go_wp2_with fail
                go_meet
                exact ⟨false, rfl, fun h => (by cases h), fun _ => HN0.out, Ext.drewN _ _⟩
              · have HN0 := Lib.hid (madeL_new HOL.out HQ.out (.inr ⟨p, HP.out, hsr⟩))
                have hs' : (p.src.toList == qs.toList) = false := by rw [eq_dec]; simpa using hsr
                have hs2 : (p.src.toList != qs.toList) = true := by rw [bne, hs']; rfl
                clear hsr
                go_wp2_with fail
                go_quiet (fail)
                go_wp2_with fail
                go_meet
                exact ⟨true, rfl, fun _ => HN0.out, fun h => (by cases h), Ext.drewN _ _⟩
          case rest =>
            obtain ⟨b, rfl, hb1, hb2, hxc⟩ := hcut
            have HB1 := Lib.hid hb1
            have HB2 := Lib.hid hb2
            have HXC := Lib.hid (HXT.out.trans hxc)
            have HMC := Lib.hid (own_later HMD.out hxc)
            clear hb1 hb2 hxc HXT HMD d0 d1 d2 d3 d4 f0 f1 f2 f3 f4
            obtain ⟨d0, d1, d2, d3, d4⟩ := HC.out wc HXC.out
            go_upto_if 58 with fail
            go_cut [6] from 37 to 83 (fun s6 wx => wx.ownsRow v4.heap.size 31 5 s6 (madeL L (i + 1)).length ((madeL L (i + 1)).flatMap ruleC) ∧ Ext v4 wx)
            case first =>
              cases b with
              | true =>
                have HNEW := Lib.hid (HB1.out rfl)
                clear HB1 HB2
                go_wp2_with fail
                clear d0 d1 d2 d3 d4
                have HMD := HMC
                refine (of_graph w.heap.size g L qs _ (HG4.out.later (HXC.out)).at_ (by omega)).mono ?_
                rintro e v5 ⟨u5, rfl, hrow, hx⟩
                obtain ⟨A5, n5, c5, rfl, hn5, hnc5, hc5, hr5⟩ := hrow
                have hl5 := List.length_filter_le (fun r => decide (r.src = qs)) L
                have hof : (ofL L qs).length ≤ L.length := hl5
                rw [hn5] at hof
                have HX6 := Lib.hid ((HXC.out).trans hx)
                have HO6 := Lib.hid (own_later HMD.out hx)
                have HR5 := Lib.hid hr5
                have HN5 := Lib.hid hn5
                have hml := madeL_len L i
                have HL5 := Lib.hid hml
                clear hx hr5 hn5 hl5 hml
                go_wp2_with (first
                  | (at_builtin
                     refine app_row ruleC_len ruleC_one _ rfl (.tmp 59) (.tmp 66) 51 31 rfl i1 (.agg #[.string ByteArray.empty, .string ByteArray.empty, .int .i64 0, .int .i64 0, .int .i64 0]) 56 Try.underlying51 hi1 hz3 hz4 hz5 rfl (by decide) (by decide) v4.heap.size _ (madeL L i) rfl (by exact HO6.out) HX6.out.size A5 n5 c5 (ofL L qs) rfl HN5.out HR5.out (by have := HL5.out; have := HN5.out; omega) ?_
                     intro v7 w7 hown7 hchg7
                     have hext7 := ((Chg.of_ext HX6.out).trans hchg7).to_ext (Nat.le_refl _)
                     clear hchg7))
                go_meet
                exact ⟨by rw [HNEW.out]; exact hown7, hext7⟩
              | false =>
                have HOLD := Lib.hid (HB2.out rfl)
                clear HB1 HB2 d0 d1 d2 d3 d4
                go_wp2_with fail
                go_meet
                exact ⟨by rw [HOLD.out]; exact HMC.out, HXC.out⟩
            case rest =>
              have HM := Lib.hid hcut.1
              have HX5 := Lib.hid hcut.2
              clear hcut
              go_wp2_with fail
              go_loopw [8] (fun j wq => ∃ m : Nat, m ≤ i ∧ j = .int .i64 (m : Int) ∧ Ext wc wq) (fun j _ => i - (intOf j).toNat)
              case atStart => exact ⟨0, by omega, rfl, Ext.refl _⟩
              case round =>
                obtain ⟨m, hm, rfl, hxt⟩ := hrel
                have HXM := Lib.hid hxt
                clear hxt
                by_cases hmi : m < i
                · obtain ⟨p, hp⟩ : ∃ q, L[m]? = some q := ⟨_, List.getElem?_eq_getElem (by have := HN4.out; omega)⟩
                  obtain ⟨d0, d1, d2, d3, d4⟩ := rule_cells (HR4.out.ext (HX5.out.trans HXM.out)) HQ.out
                  obtain ⟨e0, e1, e2, e3, e4⟩ := rule_cells (HR4.out.ext (HX5.out.trans HXM.out)) hp
                  have hne := dst_other HOL.out HQ.out hp hmi
                  have hne' : (p.dst.toList == qd.toList) = false := by rw [eq_dec]; simpa using hne
                  clear hne hp d0 d2 d3 d4 e0 e2 e3 e4
                  go_wp2_with fail
                  go_quiet (fail)
                  go_wp2_with fail
                  go_roundw
                  case rel => exact ⟨m + 1, by omega, by go_num, HXM.out.trans (Ext.drewN _ _)⟩
                  case measure => simp [intOf]; omega
                · obtain rfl : m = i := by omega
                  go_wp2_with fail
                  go_roundw
                  case rel => exact ⟨m + 1, by omega, by go_num, own_later HM.out HXM.out, HX5.out.trans HXM.out⟩
                  case measure => simp [intOf]; omega
        · obtain rfl : i = n4 := by omega
          have hmd2 : wr.ownsRow v4.heap.size 31 5 u6 L.length (L.flatMap ruleC) := by
            have := HMD.out
            rw [← HN4.out, madeL_end] at this
            exact this
          have HR6 := Lib.hid (own_row hmd2)
          have HRW6 := Lib.hid (HRW.out.ext HXT.out)
          clear hmd2 HMD
          go_wp2_with fail
          refine (plain_any u6 L wr HR6.out (by omega)).mono ?_
          rintro e v9 ⟨u9, rfl, hrow, hx⟩
          have HR9 := Lib.hid hrow
          have HRW9 := Lib.hid (HRW6.out.ext hx)
          have HX9 := Lib.hid (HXT.out.trans hx)
          clear hrow hx HR6 HRW6 HXT
          go_wp2_with fail
          refine (plain_any _ L v9 HRW9.out (by omega)).mono ?_
          rintro e v10 ⟨u10, rfl, hrow, hx⟩
          have HR10 := Lib.hid hrow
          have HR10b := Lib.hid (HR9.out.ext hx)
          have HX10 := Lib.hid (HX9.out.trans hx)
          clear hrow hx HR9 HRW9 HX9
          go_wp2_with fail
          refine (same_any u9 u10 L L v10 HR10b.out HR10.out).mono ?_
          rintro e v11 ⟨rfl, hx⟩
          rw [decide_eq_true rfl]
          have HG11 := Lib.hid (HG4.out.later (HX10.out.trans hx))
          clear hx HR10 HR10b HX10
          go_wp2_with fail
          refine (known_any _).mono ?_
          rintro e v9 ⟨rfl, hx⟩
          go_wp2_with fail
          go_ret
          exact ⟨rfl, HG11.out.ext.trans hx⟩
end Go.Proofs.Ytdahdghphjlmfaa
