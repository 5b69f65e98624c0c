/- GraphGone walked. -/
import Derived.Test.YtdahdghphjlmfaaGraH
import Derived.Deep.CutRange
import Derived.Deep.RegionHeld3
namespace Go.Proofs.Ytdahdghphjlmfaa
open Go.RowKit Sets Gra
set_option linter.unusedVariables false


set_option maxRecDepth 100000 in
set_option maxHeartbeats 60000000 in
theorem graphGone_any (v : Value) (xs : List GOp) (r : Rule) (key : ByteArray) (w : World) (h : Row opC w v xs) (hok : ∀ o ∈ xs, GOpOk o) (hr0 : RuleOk r) (hks : key.size ≤ 9223372036854775807) :
    Calls Try.prog 5 #[v, ruleV r, .string key] w fun e w' => e = .returned (.bool true) ∧ Ext w w' := by
  obtain ⟨rs, rd, rk, rz, ra⟩ := r
  obtain ⟨A, n, c, rfl, hn, hnc, hc, hr⟩ := h
  have hc' : c ≤ 9223372036854775807 := by simpa [maxLen] using hc
  have HR := Lib.hid hr
  have HN := Lib.hid hn
  have HOK := Lib.hid hok
  have HRO := Lib.hid hr0
  clear hr hn hok hc hr0
  simp only [ruleV]
  go_enter Try.func5, Try.ntmps5
  go_wp2_with fail
  have hb := heap_alloc_new w (.cells #[.string rs, .string rd, .int .i64 rk, .int .i64 rz, .int .i64 ra] 31 (0, 0))
  have hx1 := Ext.alloc w (.cells #[.string rs, .string rd, .int .i64 rk, .int .i64 rz, .int .i64 ra] 31)
  generalize w.alloc (.cells #[.string rs, .string rd, .int .i64 rk, .int .i64 rz, .int .i64 ra] 31) = w1 at hb hx1 ⊢
  obtain ⟨p, hp⟩ : ∃ p, p = w.heap.size := ⟨_, rfl⟩
  rw [← hp] at hb
  rw [← hp]
  clear hp
  refine (new_any w1).mono ?_
  rintro e v1 ⟨g, rfl, hg, hx⟩
  have hgb : GraphAt w.heap.size v1 g [] := hg.base hx1.size
  have HG1 := Lib.hid (⟨hgb, hx1.trans hx⟩ : Gx w v1 g [])
  have HB := Lib.hid ((Cm.of_ext hx).cells _ _ _ _ hb)
  have hB0 := heap_cell HB.out 0
  have hB1 := heap_cell HB.out 1
  have hB2 := heap_cell HB.out 2
  have hB3 := heap_cell HB.out 3
  have hB4 := heap_cell HB.out 4
  clear hg hgb hx hb
  go_wp2_with fail
  refine (light_any ⟨rs, rd, rk, rz, ra⟩ v1 HRO.out).mono ?_
  rintro e v2 ⟨rfl, hx⟩
  have HB2 := Lib.hid ((Cm.of_ext hx).cells _ _ _ _ HB.out)
  have HG2 := Lib.hid (HG1.out.later hx)
  clear HB HG1 hx
  cases hlt : lightR ⟨rs, rd, rk, rz, ra⟩ with
  | false =>
    clear hlt
    go_wp2_with fail
    refine (known_any _).mono ?_
    rintro e v9 ⟨rfl, hx⟩
    go_wp2_with fail
    go_ret
    exact ⟨rfl, HG2.out.ext.trans hx⟩
  | true =>
    clear hlt
    by_cases hk100 : (key.size : Int) ≤ 100
    · go_wp2_with fail
      go_loopw [8] (fun i wr => ∃ (k : Nat) (L : List Rule), k ≤ n ∧ k ≤ 40 ∧ i = .int .i64 (k : Int) ∧ Gx w wr g L ∧ L.length ≤ k ∧ Cm v2 wr) (fun i _ => n - (intOf i).toNat)
      case atStart => exact ⟨0, [], by omega, by omega, rfl, HG2.out, by simp, Cm.refl _⟩
      case round =>
        obtain ⟨k, L, hk, hk40, rfl, hgx, hlen, hcm⟩ := hrel
        have HG := Lib.hid hgx
        have HCM := Lib.hid hcm
        clear hgx hcm
        by_cases hkn : k < n
        · by_cases hk4 : k < 40
          · obtain ⟨ad, rfl⟩ : ∃ ad, A = some ad := row_some HR.out opC_len (by decide) (by have := HN.out; omega)
            obtain ⟨o, hx⟩ : ∃ o, xs[k]? = some o := ⟨_, List.getElem?_eq_getElem (by have := HN.out; omega)⟩
            have HC := Lib.hid (fun wz (hw : Ext w wz) => gop_cells (HR.out.ext hw) hx)
            obtain ⟨c0, c1, c2, c3, c4, c5⟩ := HC.out wr HG.out.ext
            have hro := (HOK.out o (List.mem_of_getElem? hx)).r
            have HRQ := Lib.hid hro
            obtain ⟨kd, q⟩ := o
            obtain ⟨qs, qd, qk, qz, qa⟩ := q
            clear hro hx
            go_wp2_with fail
            clear c0 c1 c2 c3 c4 c5
            refine (light_any ⟨qs, qd, qk, qz, qa⟩ wr HRQ.out).mono ?_
            rintro e v3 ⟨rfl, hx⟩
            have HCM3 := Lib.hid (HCM.out.trans (Cm.of_ext hx))
            have HG3 := Lib.hid (HG.out.later hx)
            clear HG hx HCM
            cases hlt : lightR ⟨qs, qd, qk, qz, qa⟩ with
            | false =>
              clear hlt
              go_wp2_with fail
              go_roundw
              case rel => exact ⟨k + 1, L, by omega, by omega, by go_num, HG3.out, by omega, HCM3.out⟩
              case measure => simp [intOf]; omega
            | true =>
              clear hlt
              obtain ⟨c0, c1, c2, c3, c4, c5⟩ := HC.out v3 HG3.out.ext
              go_wp2_with fail
              clear c0 c1 c2 c3 c4 c5
              refine (add_any w.heap.size g L ⟨qs, qd, qk, qz, qa⟩ v3 HG3.out.at_ (by omega) HRQ.out HG3.out.ext.size).mono ?_
              rintro e v4 ⟨rfl, hd⟩
              have HCM4 := Lib.hid (HCM3.out.trans hd.cm)
              have HG4 := Lib.hid (HG3.out.did hd)
              clear HG3 HCM3 hd
              go_wp2_with fail
              go_roundw
              case rel => exact ⟨k + 1, (addR L ⟨qs, qd, qk, qz, qa⟩).2, by omega, by omega, by go_num, HG4.out, by have := len_addR L ⟨qs, qd, qk, qz, qa⟩; omega, HCM4.out⟩
              case measure => simp [intOf]; omega
          · have hk42 : 40 ≤ k := by omega
            go_wp2_with fail
            refine (all_any w.heap.size g L wr HG.out.at_ (by omega)).mono ?_
            rintro e v4 ⟨u, rfl, hrow, hx⟩
            have HRW := Lib.hid hrow
            obtain ⟨A4, n4, c4, rfl, hn4, hnc4, hc4, hr4⟩ := hrow
            have HN4 := Lib.hid hn4
            have HB4 := Lib.hid ((HCM.out.trans (Cm.of_ext hx)).cells _ _ _ _ HB2.out)
            have HG4 := Lib.hid (HG.out.later hx)
            clear hr4 hn4 hc4 hx HG HCM hnc4
            have hB0 := heap_cell HB4.out 0
            have hB1 := heap_cell HB4.out 1
            have hB2 := heap_cell HB4.out 2
            have hB3 := heap_cell HB4.out 3
            have hB4 := heap_cell HB4.out 4
            go_wp2_with fail
            clear hB0 hB1 hB2 hB3 hB4
            refine (add_any w.heap.size g L ⟨rs, rd, rk, rz, ra⟩ v4 HG4.out.at_ (by omega) HRO.out HG4.out.ext.size).mono ?_
            rintro e v5 ⟨rfl, hd⟩
            have HB5 := Lib.hid (hd.cm.cells _ _ _ _ HB4.out)
            have HCM5 := Lib.hid hd.cm
            have HG5 := Lib.hid (HG4.out.did hd)
            clear hd
            have HOKL := Lib.hid HG4.out.at_.ok
            go_upto_if 66 with fail
            go_cut [7] from 19 to 143 (fun s7 wx => s7 = .pointer (some ⟨g, 0, none⟩) ∧ Gx w wx g L ∧ Cm v4 wx)
            case first =>
              by_cases he : (addR L ⟨rs, rd, rk, rz, ra⟩).1 = 0
              · have he2 : ((addR L ⟨rs, rd, rk, rz, ra⟩).1 == 0) = true := by simpa using he
                have HE1 := Lib.hid (add_into HOKL.out he)
                have HE2 := Lib.hid (add_drop HOKL.out he)
                clear he
                have hB0 := heap_cell HB5.out 0
                have hB1 := heap_cell HB5.out 1
                have hB2 := heap_cell HB5.out 2
                have hB3 := heap_cell HB5.out 3
                have hB4 := heap_cell HB5.out 4
                go_wp2_with fail
                clear hB0 hB1 hB2 hB3 hB4
                refine (into_any w.heap.size g _ rd v5 HG5.out.at_ HRO.out.d).mono ?_
                rintro e v6 ⟨rfl, hx⟩
                rw [HE1.out.1, HE1.out.2]
                simp only [ruleV]
                have HG6 := Lib.hid ((HG5.out.later hx).later (Ext.alloc v6 (.cells #[.string rs, .string rd, .int .i64 rk, .int .i64 rz, .int .i64 ra] 31)))
                have HB6 := Lib.hid ((Cm.of_ext (hx.trans (Ext.alloc v6 (.cells #[.string rs, .string rd, .int .i64 rk, .int .i64 rz, .int .i64 ra] 31)))).cells _ _ _ _ HB5.out)
                have HCM6 := Lib.hid (HCM5.out.trans (Cm.of_ext (hx.trans (Ext.alloc v6 (.cells #[.string rs, .string rd, .int .i64 rk, .int .i64 rz, .int .i64 ra] 31)))))
                have hD6 := heap_alloc_new v6 (.cells #[.string rs, .string rd, .int .i64 rk, .int .i64 rz, .int .i64 ra] 31 (0, 0))
                clear hx HG5 HB5 HCM5
                have hB0 := heap_cell HB6.out 0
                have hB1 := heap_cell HB6.out 1
                have hB2 := heap_cell HB6.out 2
                have hB3 := heap_cell HB6.out 3
                have hB4 := heap_cell HB6.out 4
                go_wp2_with fail
                clear hB0 hB1 hB2 hB3 hB4
                generalize v6.alloc (.cells #[.string rs, .string rd, .int .i64 rk, .int .i64 rz, .int .i64 ra] 31) = v7 at HG6 HB6 HCM6 hD6 ⊢
                generalize v6.heap.size = p7 at hD6 ⊢
                have HD6 := Lib.hid hD6
                clear hD6
                refine (drop_any w.heap.size g _ rs rd v7 HG6.out.at_ HRO.out.s HRO.out.d HG6.out.ext.size).mono ?_
                rintro e v8 ⟨rfl, hd⟩
                rw [HE2.out] at hd ⊢
                simp only [ruleV]
                have HG8 := Lib.hid ((HG6.out.did hd).later (Ext.alloc v8 (.cells #[.string rs, .string rd, .int .i64 rk, .int .i64 rz, .int .i64 ra] 31)))
                have HB8 := Lib.hid ((hd.cm.trans (Cm.of_ext (Ext.alloc v8 (.cells #[.string rs, .string rd, .int .i64 rk, .int .i64 rz, .int .i64 ra] 31)))).cells _ _ _ _ HB6.out)
                have HD8 := Lib.hid ((hd.cm.trans (Cm.of_ext (Ext.alloc v8 (.cells #[.string rs, .string rd, .int .i64 rk, .int .i64 rz, .int .i64 ra] 31)))).cells _ _ _ _ HD6.out)
                have HCM8 := Lib.hid (HCM6.out.trans (hd.cm.trans (Cm.of_ext (Ext.alloc v8 (.cells #[.string rs, .string rd, .int .i64 rk, .int .i64 rz, .int .i64 ra] 31)))))
                clear hd HG6 HB6 HCM6 HD6
                have hB0 := heap_cell HB8.out 0
                have hB1 := heap_cell HB8.out 1
                have hB2 := heap_cell HB8.out 2
                have hB3 := heap_cell HB8.out 3
                have hB4 := heap_cell HB8.out 4
                have hD0 := heap_cell HD8.out 0
                have hD1 := heap_cell HD8.out 1
                have hD2 := heap_cell HD8.out 2
                have hD3 := heap_cell HD8.out 3
                have hD4 := heap_cell HD8.out 4
                go_wp2_with fail
                go_meet
                exact ⟨rfl, HG8.out, HCM8.out⟩
              · have he' : ((addR L ⟨rs, rd, rk, rz, ra⟩).1 == 0) = false := by simpa using he
                have HE := Lib.hid (add_same he)
                clear he
                rw [HE.out] at HG5
                go_wp2_with fail
                go_meet
                exact ⟨rfl, HG5.out, HCM5.out⟩
            case rest =>
              obtain ⟨rfl, hg9, hcm9⟩ := hcut
              have HG9 := Lib.hid hg9
              have HCM9 := Lib.hid hcm9
              clear hg9 hcm9 HG5 HCM5 HB5 HB4
              go_wp2_with fail
              refine (all_any w.heap.size g L wc HG9.out.at_ (by omega)).mono ?_
              rintro e v10 ⟨u10, rfl, hrow, hx⟩
              have HR10 := Lib.hid hrow
              have HRW10 := Lib.hid ((HCM9.out.trans (Cm.of_ext hx)).row HRW.out)
              have HG10 := Lib.hid (HG9.out.later hx)
              clear hrow hx HG9 HCM9 HRW
              go_wp2_with fail
              refine (plain_any u10 L v10 HR10.out (by omega)).mono ?_
              rintro e v11 ⟨u11, rfl, hrow, hx⟩
              have HR11 := Lib.hid hrow
              have HRW11 := Lib.hid ((Cm.of_ext hx).row HRW10.out)
              have HG11 := Lib.hid (HG10.out.later hx)
              clear hrow hx HG10 HRW10 HR10
              go_wp2_with fail
              refine (plain_any _ L v11 HRW11.out (by omega)).mono ?_
              rintro e v12 ⟨u12, rfl, hrow, hx⟩
              have HR12 := Lib.hid (HR11.out.ext hx)
              have HR12b := Lib.hid hrow
              have HG12 := Lib.hid (HG11.out.later hx)
              clear hrow hx HG11 HRW11 HR11
              go_wp2_with fail
              refine (same_any u11 u12 L L v12 HR12.out HR12b.out).mono ?_
              rintro e v13 ⟨rfl, hx⟩
              have HG13 := Lib.hid (HG12.out.later hx)
              clear hx HG12 HR12 HR12b
              rw [decide_eq_true rfl]
              go_wp2_with fail
              refine (gone_any w.heap.size g L key v13 HG13.out.at_ (by omega) HG13.out.ext.size).mono ?_
              rintro e v14 ⟨rfl, hd⟩
              have HG14 := Lib.hid (HG13.out.did hd)
              clear hd HG13
              go_wp2_with fail
              refine (all_any w.heap.size g _ v14 HG14.out.at_ (by have := len_goneL L key; omega)).mono ?_
              rintro e v15 ⟨u15, rfl, hrow, hx⟩
              obtain ⟨A15, n15, c15, rfl, hn15, hnc15, hc15, hr15⟩ := hrow
              have HG15 := Lib.hid (HG14.out.later hx)
              have hgl := gone_len L key
              have hn15' := len_goneL L key
              rw [hn15] at hgl hn15'
              rw [HN4.out] at hgl
              clear hx HG14 hr15 hnc15 hc15 hn15
              go_wp2_with fail
              refine (into_any w.heap.size g _ key v15 HG15.out.at_ hks).mono ?_
              rintro e v16 ⟨rfl, hx⟩
              rw [show (intoL (goneL L key) key).isSome = false by rw [gone_into]; rfl, show intoV (goneL L key) key = zeroR by rw [intoV, gone_into]; rfl]
              have HG16 := Lib.hid ((HG15.out.later hx).later (Ext.alloc v16 (.cells #[.string ⟨#[]⟩, .string ⟨#[]⟩, .int .i64 0, .int .i64 0, .int .i64 0] 31)))
              clear hx HG15
              simp only [ruleV, zeroR]
              have hsum : (n15 : Int) + ((L.filter (isAt key)).length : Int) = (n4 : Int) := hgl.symm
              have hn4 : n4 ≤ 40 := by have := HN4.out; omega
              clear hgl
              go_wp2_with fail
              generalize v16.alloc (.cells #[.string ⟨#[]⟩, .string ⟨#[]⟩, .int .i64 0, .int .i64 0, .int .i64 0] 31) = v17 at HG16 ⊢
              refine (of_graph w.heap.size g _ key v17 HG16.out.at_ (by have := len_goneL L key; omega)).mono ?_
              rintro e v18 ⟨u18, rfl, hrow, hx⟩
              rw [gone_of] at hrow
              obtain ⟨A18, n18, c18, rfl, hn18, _⟩ := hrow
              obtain rfl : n18 = 0 := hn18.symm
              have HG18 := Lib.hid (HG16.out.later hx)
              clear hx HG16 hn18
              go_wp2_with fail
              refine (gone_any w.heap.size g _ key v18 HG18.out.at_ (by have := len_goneL L key; omega) HG18.out.ext.size).mono ?_
              rintro e v19 ⟨rfl, hd⟩
              rw [gone_again]
              have HG19 := Lib.hid (HG18.out.did hd)
              clear hd HG18
              go_wp2_with fail
              refine (known_any _).mono ?_
              rintro e v9 ⟨rfl, hx⟩
              go_wp2_with fail
              go_ret
              exact ⟨rfl, HG19.out.ext.trans hx⟩
        · go_wp2_with fail
          refine (all_any w.heap.size g L wr HG.out.at_ (by omega)).mono ?_
          rintro e v4 ⟨u, rfl, hrow, hx⟩
          have HRW := Lib.hid hrow
          obtain ⟨A4, n4, c4, rfl, hn4, hnc4, hc4, hr4⟩ := hrow
          have HN4 := Lib.hid hn4
          have HB4 := Lib.hid ((HCM.out.trans (Cm.of_ext hx)).cells _ _ _ _ HB2.out)
          have HG4 := Lib.hid (HG.out.later hx)
          clear hr4 hn4 hc4 hx HG HCM hnc4
          have hB0 := heap_cell HB4.out 0
          have hB1 := heap_cell HB4.out 1
          have hB2 := heap_cell HB4.out 2
          have hB3 := heap_cell HB4.out 3
          have hB4 := heap_cell HB4.out 4
          go_wp2_with fail
          clear hB0 hB1 hB2 hB3 hB4
          refine (add_any w.heap.size g L ⟨rs, rd, rk, rz, ra⟩ v4 HG4.out.at_ (by omega) HRO.out HG4.out.ext.size).mono ?_
          rintro e v5 ⟨rfl, hd⟩
          have HB5 := Lib.hid (hd.cm.cells _ _ _ _ HB4.out)
          have HCM5 := Lib.hid hd.cm
          have HG5 := Lib.hid (HG4.out.did hd)
          clear hd
          have HOKL := Lib.hid HG4.out.at_.ok
          go_upto_if 66 with fail
          go_cut [7] from 19 to 143 (fun s7 wx => s7 = .pointer (some ⟨g, 0, none⟩) ∧ Gx w wx g L ∧ Cm v4 wx)
          case first =>
            by_cases he : (addR L ⟨rs, rd, rk, rz, ra⟩).1 = 0
            · have he2 : ((addR L ⟨rs, rd, rk, rz, ra⟩).1 == 0) = true := by simpa using he
              have HE1 := Lib.hid (add_into HOKL.out he)
              have HE2 := Lib.hid (add_drop HOKL.out he)
              clear he
              have hB0 := heap_cell HB5.out 0
              have hB1 := heap_cell HB5.out 1
              have hB2 := heap_cell HB5.out 2
              have hB3 := heap_cell HB5.out 3
              have hB4 := heap_cell HB5.out 4
              go_wp2_with fail
              clear hB0 hB1 hB2 hB3 hB4
              refine (into_any w.heap.size g _ rd v5 HG5.out.at_ HRO.out.d).mono ?_
              rintro e v6 ⟨rfl, hx⟩
              rw [HE1.out.1, HE1.out.2]
              simp only [ruleV]
              have HG6 := Lib.hid ((HG5.out.later hx).later (Ext.alloc v6 (.cells #[.string rs, .string rd, .int .i64 rk, .int .i64 rz, .int .i64 ra] 31)))
              have HB6 := Lib.hid ((Cm.of_ext (hx.trans (Ext.alloc v6 (.cells #[.string rs, .string rd, .int .i64 rk, .int .i64 rz, .int .i64 ra] 31)))).cells _ _ _ _ HB5.out)
              have HCM6 := Lib.hid (HCM5.out.trans (Cm.of_ext (hx.trans (Ext.alloc v6 (.cells #[.string rs, .string rd, .int .i64 rk, .int .i64 rz, .int .i64 ra] 31)))))
              have hD6 := heap_alloc_new v6 (.cells #[.string rs, .string rd, .int .i64 rk, .int .i64 rz, .int .i64 ra] 31 (0, 0))
              clear hx HG5 HB5 HCM5
              have hB0 := heap_cell HB6.out 0
              have hB1 := heap_cell HB6.out 1
              have hB2 := heap_cell HB6.out 2
              have hB3 := heap_cell HB6.out 3
              have hB4 := heap_cell HB6.out 4
              go_wp2_with fail
              clear hB0 hB1 hB2 hB3 hB4
              generalize v6.alloc (.cells #[.string rs, .string rd, .int .i64 rk, .int .i64 rz, .int .i64 ra] 31) = v7 at HG6 HB6 HCM6 hD6 ⊢
              generalize v6.heap.size = p7 at hD6 ⊢
              have HD6 := Lib.hid hD6
              clear hD6
              refine (drop_any w.heap.size g _ rs rd v7 HG6.out.at_ HRO.out.s HRO.out.d HG6.out.ext.size).mono ?_
              rintro e v8 ⟨rfl, hd⟩
              rw [HE2.out] at hd ⊢
              simp only [ruleV]
              have HG8 := Lib.hid ((HG6.out.did hd).later (Ext.alloc v8 (.cells #[.string rs, .string rd, .int .i64 rk, .int .i64 rz, .int .i64 ra] 31)))
              have HB8 := Lib.hid ((hd.cm.trans (Cm.of_ext (Ext.alloc v8 (.cells #[.string rs, .string rd, .int .i64 rk, .int .i64 rz, .int .i64 ra] 31)))).cells _ _ _ _ HB6.out)
              have HD8 := Lib.hid ((hd.cm.trans (Cm.of_ext (Ext.alloc v8 (.cells #[.string rs, .string rd, .int .i64 rk, .int .i64 rz, .int .i64 ra] 31)))).cells _ _ _ _ HD6.out)
              have HCM8 := Lib.hid (HCM6.out.trans (hd.cm.trans (Cm.of_ext (Ext.alloc v8 (.cells #[.string rs, .string rd, .int .i64 rk, .int .i64 rz, .int .i64 ra] 31)))))
              clear hd HG6 HB6 HCM6 HD6
              have hB0 := heap_cell HB8.out 0
              have hB1 := heap_cell HB8.out 1
              have hB2 := heap_cell HB8.out 2
              have hB3 := heap_cell HB8.out 3
              have hB4 := heap_cell HB8.out 4
              have hD0 := heap_cell HD8.out 0
              have hD1 := heap_cell HD8.out 1
              have hD2 := heap_cell HD8.out 2
              have hD3 := heap_cell HD8.out 3
              have hD4 := heap_cell HD8.out 4
              go_wp2_with fail
              go_meet
              exact ⟨rfl, HG8.out, HCM8.out⟩
            · have he' : ((addR L ⟨rs, rd, rk, rz, ra⟩).1 == 0) = false := by simpa using he
              have HE := Lib.hid (add_same he)
              clear he
              rw [HE.out] at HG5
              go_wp2_with fail
              go_meet
              exact ⟨rfl, HG5.out, HCM5.out⟩
          case rest =>
            obtain ⟨rfl, hg9, hcm9⟩ := hcut
            have HG9 := Lib.hid hg9
            have HCM9 := Lib.hid hcm9
            clear hg9 hcm9 HG5 HCM5 HB5 HB4
            go_wp2_with fail
            refine (all_any w.heap.size g L wc HG9.out.at_ (by omega)).mono ?_
            rintro e v10 ⟨u10, rfl, hrow, hx⟩
            have HR10 := Lib.hid hrow
            have HRW10 := Lib.hid ((HCM9.out.trans (Cm.of_ext hx)).row HRW.out)
            have HG10 := Lib.hid (HG9.out.later hx)
            clear hrow hx HG9 HCM9 HRW
            go_wp2_with fail
            refine (plain_any u10 L v10 HR10.out (by omega)).mono ?_
            rintro e v11 ⟨u11, rfl, hrow, hx⟩
            have HR11 := Lib.hid hrow
            have HRW11 := Lib.hid ((Cm.of_ext hx).row HRW10.out)
            have HG11 := Lib.hid (HG10.out.later hx)
            clear hrow hx HG10 HRW10 HR10
            go_wp2_with fail
            refine (plain_any _ L v11 HRW11.out (by omega)).mono ?_
            rintro e v12 ⟨u12, rfl, hrow, hx⟩
            have HR12 := Lib.hid (HR11.out.ext hx)
            have HR12b := Lib.hid hrow
            have HG12 := Lib.hid (HG11.out.later hx)
            clear hrow hx HG11 HRW11 HR11
            go_wp2_with fail
            refine (same_any u11 u12 L L v12 HR12.out HR12b.out).mono ?_
            rintro e v13 ⟨rfl, hx⟩
            have HG13 := Lib.hid (HG12.out.later hx)
            clear hx HG12 HR12 HR12b
            rw [decide_eq_true rfl]
            go_wp2_with fail
            refine (gone_any w.heap.size g L key v13 HG13.out.at_ (by omega) HG13.out.ext.size).mono ?_
            rintro e v14 ⟨rfl, hd⟩
            have HG14 := Lib.hid (HG13.out.did hd)
            clear hd HG13
            go_wp2_with fail
            refine (all_any w.heap.size g _ v14 HG14.out.at_ (by have := len_goneL L key; omega)).mono ?_
            rintro e v15 ⟨u15, rfl, hrow, hx⟩
            obtain ⟨A15, n15, c15, rfl, hn15, hnc15, hc15, hr15⟩ := hrow
            have HG15 := Lib.hid (HG14.out.later hx)
            have hgl := gone_len L key
            have hn15' := len_goneL L key
            rw [hn15] at hgl hn15'
            rw [HN4.out] at hgl
            clear hx HG14 hr15 hnc15 hc15 hn15
            go_wp2_with fail
            refine (into_any w.heap.size g _ key v15 HG15.out.at_ hks).mono ?_
            rintro e v16 ⟨rfl, hx⟩
            rw [show (intoL (goneL L key) key).isSome = false by rw [gone_into]; rfl, show intoV (goneL L key) key = zeroR by rw [intoV, gone_into]; rfl]
            have HG16 := Lib.hid ((HG15.out.later hx).later (Ext.alloc v16 (.cells #[.string ⟨#[]⟩, .string ⟨#[]⟩, .int .i64 0, .int .i64 0, .int .i64 0] 31)))
            clear hx HG15
            simp only [ruleV, zeroR]
            have hsum : (n15 : Int) + ((L.filter (isAt key)).length : Int) = (n4 : Int) := hgl.symm
            have hn4 : n4 ≤ 40 := by have := HN4.out; omega
            clear hgl
            go_wp2_with fail
            generalize v16.alloc (.cells #[.string ⟨#[]⟩, .string ⟨#[]⟩, .int .i64 0, .int .i64 0, .int .i64 0] 31) = v17 at HG16 ⊢
            refine (of_graph w.heap.size g _ key v17 HG16.out.at_ (by have := len_goneL L key; omega)).mono ?_
            rintro e v18 ⟨u18, rfl, hrow, hx⟩
            rw [gone_of] at hrow
            obtain ⟨A18, n18, c18, rfl, hn18, _⟩ := hrow
            obtain rfl : n18 = 0 := hn18.symm
            have HG18 := Lib.hid (HG16.out.later hx)
            clear hx HG16 hn18
            go_wp2_with fail
            refine (gone_any w.heap.size g _ key v18 HG18.out.at_ (by have := len_goneL L key; omega) HG18.out.ext.size).mono ?_
            rintro e v19 ⟨rfl, hd⟩
            rw [gone_again]
            have HG19 := Lib.hid (HG18.out.did hd)
            clear hd HG18
            go_wp2_with fail
            refine (known_any _).mono ?_
            rintro e v9 ⟨rfl, hx⟩
            go_wp2_with fail
            go_ret
            exact ⟨rfl, HG19.out.ext.trans hx⟩
    · have hk101 : 100 < (key.size : Int) := by omega
      go_wp2_with fail
      refine (known_any _).mono ?_
      rintro e v9 ⟨rfl, hx⟩
      go_wp2_with fail
      go_ret
      exact ⟨rfl, HG2.out.ext.trans hx⟩
end Go.Proofs.Ytdahdghphjlmfaa
