/- GraphFlat walked. -/
import Derived.Test.YtdahdghphjlmfaaGraH
import Derived.Deep.CutRange
import Derived.Deep.RegionHeld3
namespace Go.Proofs.Ytdahdghphjlmfaa
open Go.RowKit Sets Gra
set_option linter.unusedVariables false

set_option maxRecDepth 100000 in
set_option maxHeartbeats 60000000 in
theorem graphFlat_any (v : Value) (xs : List GOp) (w : World) (h : Row opC w v xs) (hok : ∀ o ∈ xs, GOpOk o) :
    Calls Try.prog 4 #[v] w fun e w' => e = .returned (.bool true) ∧ Ext w w' := by
  obtain ⟨A, n, c, rfl, hn, hnc, hc, hr⟩ := h
  have hc' : c ≤ 9223372036854775807 := by simpa [maxLen] using hc
  have HR := Lib.hid hr
  have HN := Lib.hid hn
  have HOK := Lib.hid hok
  clear hr hn hok hc
  go_enter Try.func4, Try.ntmps4
  go_wp2_with fail
  refine (new_any w).mono ?_
  rintro e v0 ⟨g, rfl, hg, hx⟩
  have HG0 := Lib.hid (⟨hg, hx⟩ : Gx w v0 g [])
  clear hg hx
  go_wp2_with fail
  go_loopw [4] (fun i wr => ∃ (k : Nat) (L : List Rule), k ≤ n ∧ k ≤ 60 ∧ i = .int .i64 (k : Int) ∧ Gx w wr g L ∧ L.length ≤ k) (fun i _ => n - (intOf i).toNat)
  case atStart => exact ⟨0, [], by omega, by omega, rfl, HG0.out, by simp⟩
  case round =>
    obtain ⟨k, L, hk, hk60, rfl, hgx, hlen⟩ := hrel
    have HG := Lib.hid hgx
    clear hgx
    by_cases hkn : k < n
    · by_cases hk6 : k < 60
      · obtain ⟨ad, rfl⟩ : ∃ ad, A = some ad := row_some HR.out opC_len (by decide) (by have := HN.out; omega)
        obtain ⟨o, hx⟩ : ∃ o, xs[k]? = some o := ⟨_, List.getElem?_eq_getElem (by have := HN.out; omega)⟩
        obtain ⟨c0, c1, c2, c3, c4, c5⟩ := gop_cells (HR.out.ext HG.out.ext) hx
        have hro := (HOK.out o (List.mem_of_getElem? hx)).r
        have HRO := Lib.hid hro
        obtain ⟨kd, r⟩ := o
        obtain ⟨rs, rd, rk, rz, ra⟩ := r
        dsimp only at c0 c1 c2 c3 c4 c5
        clear hro hx
        go_wp2_with fail
        clear c0 c1 c2 c3 c4 c5
        have hb := heap_alloc_new wr (.cells #[.int .i64 kd, .string rs, .string rd, .int .i64 rk, .int .i64 rz, .int .i64 ra] 33 (0, 0))
        have HG1 := Lib.hid (HG.out.later (Ext.alloc wr (.cells #[.int .i64 kd, .string rs, .string rd, .int .i64 rk, .int .i64 rz, .int .i64 ra] 33)))
        clear HG
        generalize wr.alloc (.cells #[.int .i64 kd, .string rs, .string rd, .int .i64 rk, .int .i64 rz, .int .i64 ra] 33) = v1 at hb HG1 ⊢
        generalize wr.heap.size = p at hb ⊢
        have HB := Lib.hid hb
        clear hb
        have hB0 := heap_cell HB.out 0
        have hB1 := heap_cell HB.out 1
        have hB2 := heap_cell HB.out 2
        have hB3 := heap_cell HB.out 3
        have hB4 := heap_cell HB.out 4
        have hB5 := heap_cell HB.out 5
        go_wp2_with fail
        clear hB0 hB1 hB2 hB3 hB4 hB5
        refine (light_any ⟨rs, rd, rk, rz, ra⟩ v1 HRO.out).mono ?_
        rintro e v2 ⟨rfl, hx⟩
        have HB2 := Lib.hid ((Cm.of_ext hx).cells _ _ _ _ HB.out)
        have HG2 := Lib.hid (HG1.out.later hx)
        clear HB HG1 hx
        cases hlt : lightR ⟨rs, rd, rk, rz, ra⟩ with
        | false =>
          clear hlt
          go_wp2_with fail
          go_roundw
          case rel => exact ⟨k + 1, L, by omega, by omega, by go_num, HG2.out, by omega⟩
          case measure => simp [intOf]; omega
        | true =>
          clear hlt
          have hB0 := heap_cell HB2.out 0
          have hB1 := heap_cell HB2.out 1
          have hB2 := heap_cell HB2.out 2
          have hB3 := heap_cell HB2.out 3
          have hB4 := heap_cell HB2.out 4
          have hB5 := heap_cell HB2.out 5
          go_upto_if 35 with fail
          go_cut [3] from 15 to 115 (fun s3 wx => s3 = .pointer (some ⟨g, 0, none⟩) ∧ ∃ L' : List Rule, Gx w wx g L' ∧ L'.length ≤ k + 1)
          case first =>
            by_cases h1 : kd = 1
            · subst h1
              go_wp2_with fail
              clear hB0 hB1 hB2 hB3 hB4 hB5
              refine (drop_any w.heap.size g L rs rd v2 HG2.out.at_ HRO.out.s HRO.out.d HG2.out.ext.size).mono ?_
              rintro e v3 ⟨rfl, hd⟩
              have HG3 := Lib.hid (HG2.out.did hd)
              clear hd HG2
              go_wp2_with fail
              go_meet
              exact ⟨rfl, _, HG3.out, by have := len_dropR L rs rd; omega⟩
            · have h1' : (kd == 1) = false := by simpa using h1
              clear h1
              by_cases h2 : kd = 2
              · subst h2
                clear h1'
                go_wp2_with fail
                clear hB0 hB1 hB2 hB3 hB4 hB5
                refine (gone_any w.heap.size g L rs v2 HG2.out.at_ (by omega) HG2.out.ext.size).mono ?_
                rintro e v3 ⟨rfl, hd⟩
                have HG3 := Lib.hid (HG2.out.did hd)
                clear hd HG2
                go_wp2_with fail
                go_meet
                exact ⟨rfl, _, HG3.out, by have := len_goneL L rs; omega⟩
              · have h2' : (kd == 2) = false := by simpa using h2
                clear h2
                go_wp2_with fail
                clear hB0 hB1 hB2 hB3 hB4 hB5
                refine (add_any w.heap.size g L ⟨rs, rd, rk, rz, ra⟩ v2 HG2.out.at_ (by omega) HRO.out HG2.out.ext.size).mono ?_
                rintro e v3 ⟨rfl, hd⟩
                have HG3 := Lib.hid (HG2.out.did hd)
                clear hd HG2
                go_wp2_with fail
                go_meet
                exact ⟨rfl, _, HG3.out, by have := len_addR L ⟨rs, rd, rk, rz, ra⟩; omega⟩
          case rest =>
            obtain ⟨rfl, L', hg', hl'⟩ := hcut
            have HG3 := Lib.hid hg'
            clear hg' HG2 HB2 hB0 hB1 hB2 hB3 hB4 hB5
            go_wp2_with fail
            refine (all_any w.heap.size g L' wc HG3.out.at_ (by omega)).mono ?_
            rintro e v4 ⟨u, rfl, hrow, hx⟩
            obtain ⟨A4, n4, c4, rfl, hn4, hnc4, hc4, hr4⟩ := hrow
            have hc4' : c4 ≤ 9223372036854775807 := by simpa [maxLen] using hc4
            have HR4 := Lib.hid hr4
            have HN4 := Lib.hid hn4
            have HG4 := Lib.hid (HG3.out.later hx)
            clear hr4 hn4 hc4 hx HG3
            go_wp2_with fail
            go_loopw [7] (fun j wy => ∃ m : Nat, m ≤ n4 ∧ j = .int .i64 (m : Int) ∧ Ext v4 wy) (fun j _ => n4 - (intOf j).toNat)
            case atStart => exact ⟨0, by omega, rfl, Ext.refl _⟩
            case round =>
              obtain ⟨m, hm, rfl, hxt⟩ := hrel
              have HG5 := Lib.hid (HG4.out.later hxt)
              by_cases hmn : m < n4
              · obtain ⟨ad4, rfl⟩ : ∃ ad, A4 = some ad := row_some HR4.out ruleC_len (by decide) (by have := HN4.out; omega)
                obtain ⟨q, hq⟩ : ∃ q, L'[m]? = some q := ⟨_, List.getElem?_eq_getElem (by have := HN4.out; omega)⟩
                have hqm := List.mem_of_getElem? hq
                have hok5 := HG5.out.at_.ok
                have HQ1 := Lib.hid (flat_into hok5 hqm)
                have HQ2 := Lib.hid (flat_is hok5 hqm)
                have HQ3 := Lib.hid (flat_made hok5 hqm)
                have HQ4 := Lib.hid (flat_of hok5 hqm)
                have HQ5 := Lib.hid (hok5.right q hqm)
                have HQ6 := Lib.hid (ok_ruleOk hok5 hqm)
                have HC := Lib.hid (fun wy (hw : Ext v4 wy) => rule_cells (HR4.out.ext hw) hq)
                obtain ⟨d0, d1, d2, d3, d4⟩ := HC.out wr hxt
                have HXT := Lib.hid hxt
                clear hxt hqm hok5 hq
                obtain ⟨qs, qd, qk, qz, qa⟩ := q
                go_wp2_with fail
                clear d0 d1 d2 d3 d4
                refine (into_any w.heap.size g L' qd wr HG5.out.at_ HQ6.out.d).mono ?_
                rintro e v5 ⟨rfl, hx⟩
                rw [HQ1.out, HQ2.out]
                have HX5 := Lib.hid (HXT.out.trans hx)
                clear hx
                have HX6 := Lib.hid (HX5.out.trans (Ext.alloc v5 (.cells #[.string qs, .string qd, .int .i64 qk, .int .i64 qz, .int .i64 qa] 31)))
                obtain ⟨d0, d1, d2, d3, d4⟩ := HC.out _ HX6.out
                simp only [ruleV]
                go_wp2_with fail
                clear d0 d1 d2 d3 d4
                have hbx := heap_alloc_new v5 (.cells #[.string qs, .string qd, .int .i64 qk, .int .i64 qz, .int .i64 qa] 31 (0, 0))
                clear HX5
                generalize v5.alloc (.cells #[.string qs, .string qd, .int .i64 qk, .int .i64 qz, .int .i64 qa] 31) = v6 at hbx HX6 ⊢
                generalize v5.heap.size = p6 at hbx ⊢
                have HB6 := Lib.hid hbx
                clear hbx
                refine (into_any w.heap.size g L' qs v6 (HG4.out.later HX6.out).at_ HQ6.out.s).mono ?_
                rintro e v7 ⟨rfl, hx⟩
                rw [show (intoL L' qs).isSome = false by rw [HQ3.out]; rfl, show intoV L' qs = zeroR by rw [intoV, HQ3.out]; rfl]
                have HB7 := Lib.hid ((Cm.of_ext hx).cells _ _ _ _ HB6.out)
                have HX7 := Lib.hid (HX6.out.trans hx)
                clear hx HB6 HX6
                simp only [ruleV, zeroR]
                go_wp2_with fail
                have HX8 := Lib.hid (HX7.out.trans (Ext.alloc v7 (.cells #[.string ⟨#[]⟩, .string ⟨#[]⟩, .int .i64 0, .int .i64 0, .int .i64 0] 31)))
                have HB8 := Lib.hid ((Cm.of_ext (Ext.alloc v7 (.cells #[.string ⟨#[]⟩, .string ⟨#[]⟩, .int .i64 0, .int .i64 0, .int .i64 0] 31))).cells _ _ _ _ HB7.out)
                clear HX7 HB7
                generalize v7.alloc (.cells #[.string ⟨#[]⟩, .string ⟨#[]⟩, .int .i64 0, .int .i64 0, .int .i64 0] 31) = v8 at HX8 HB8 ⊢
                have HS := Lib.hid (fun wz (hw : Ext v8 wz) => (And.intro (HC.out wz (HX8.out.trans hw)) ⟨heap_cell ((Cm.of_ext hw).cells _ _ _ _ HB8.out) 0, heap_cell ((Cm.of_ext hw).cells _ _ _ _ HB8.out) 1, heap_cell ((Cm.of_ext hw).cells _ _ _ _ HB8.out) 2, heap_cell ((Cm.of_ext hw).cells _ _ _ _ HB8.out) 3, heap_cell ((Cm.of_ext hw).cells _ _ _ _ HB8.out) 4⟩ : (wz.cell? (ad4.add (m * 5)) = some (.string qs) ∧ wz.cell? ⟨(ad4.add (m * 5)).block, (ad4.add (m * 5)).off + 1, none⟩ = some (.string qd) ∧ wz.cell? ⟨(ad4.add (m * 5)).block, (ad4.add (m * 5)).off + 2, none⟩ = some (.int .i64 qk) ∧ wz.cell? ⟨(ad4.add (m * 5)).block, (ad4.add (m * 5)).off + 3, none⟩ = some (.int .i64 qz) ∧ wz.cell? ⟨(ad4.add (m * 5)).block, (ad4.add (m * 5)).off + 4, none⟩ = some (.int .i64 qa)) ∧ (wz.cell? ⟨p6, 0, none⟩ = some (.string qs) ∧ wz.cell? ⟨p6, 1, none⟩ = some (.string qd) ∧ wz.cell? ⟨p6, 2, none⟩ = some (.int .i64 qk) ∧ wz.cell? ⟨p6, 3, none⟩ = some (.int .i64 qz) ∧ wz.cell? ⟨p6, 4, none⟩ = some (.int .i64 qa))))
                have hs0 := HS.out v8 (Ext.refl _)
                go_region_held3 (fun wz => (wz.cell? (ad4.add (m * 5)) = some (.string qs) ∧ wz.cell? ⟨(ad4.add (m * 5)).block, (ad4.add (m * 5)).off + 1, none⟩ = some (.string qd) ∧ wz.cell? ⟨(ad4.add (m * 5)).block, (ad4.add (m * 5)).off + 2, none⟩ = some (.int .i64 qk) ∧ wz.cell? ⟨(ad4.add (m * 5)).block, (ad4.add (m * 5)).off + 3, none⟩ = some (.int .i64 qz) ∧ wz.cell? ⟨(ad4.add (m * 5)).block, (ad4.add (m * 5)).off + 4, none⟩ = some (.int .i64 qa)) ∧ (wz.cell? ⟨p6, 0, none⟩ = some (.string qs) ∧ wz.cell? ⟨p6, 1, none⟩ = some (.string qd) ∧ wz.cell? ⟨p6, 2, none⟩ = some (.int .i64 qk) ∧ wz.cell? ⟨p6, 3, none⟩ = some (.int .i64 qz) ∧ wz.cell? ⟨p6, 4, none⟩ = some (.int .i64 qa))) (first | assumption) (first
                  | (go_at_call 27; refine (right_any ⟨qs, qd, qk, qz, qa⟩ _ HQ6.out).mono ?_; rintro e w1 ⟨rfl, hx1⟩;
                     have hs1 := HS.out w1 ((Ext.drewN _ v8).trans hx1);
                     have HX9 := Lib.hid ((Ext.drewN _ v8).trans hx1);
                     clear hx1; rw [HQ5.out])
                  | (go_at_call 25; refine (of_graph w.heap.size g L' qd _ (HG4.out.later (HX8.out.trans HX9.out)).at_ (by omega)).mono ?_; rintro e w2 ⟨o2, rfl, hro2, hx2⟩;
                     rw [HQ4.out] at hro2;
                     obtain ⟨A5, n5, c5', rfl, hn5, _⟩ := hro2;
                     obtain rfl : n5 = 0 := hn5.symm;
                     have hs2 := HS.out w2 (HX9.out.trans hx2);
                     have HX10 := Lib.hid (HX9.out.trans hx2);
                     clear hx2 hn5))
                go_wp2_with fail
                go_roundw
                case rel => exact ⟨m + 1, by omega, by go_num, HX8.out.trans HX10.out⟩
                case measure => simp [intOf]; omega
              · obtain rfl : m = n4 := by omega
                go_wp2_with fail
                go_roundw
                case rel => exact ⟨k + 1, L', by omega, by omega, by go_num, HG5.out, by omega⟩
                case measure => simp [intOf]; omega
      · have hk62 : 60 ≤ k := by omega
        go_wp2_with fail
        refine (known_any _).mono ?_
        rintro e v9 ⟨rfl, hx⟩
        go_wp2_with fail
        go_ret
        exact ⟨rfl, HG.out.ext.trans hx⟩
    · go_wp2_with fail
      refine (known_any _).mono ?_
      rintro e v9 ⟨rfl, hx⟩
      go_wp2_with fail
      go_ret
      exact ⟨rfl, HG.out.ext.trans hx⟩
end Go.Proofs.Ytdahdghphjlmfaa
