/- IndexPlays walked. -/
import Derived.Test.YtebcjpapmjebgaaIxrG
import Derived.Deep.CutRange
import Derived.Deep.RegionHeld3
namespace Go.Proofs.Ytebcjpapmjebgaa
open Go.RowKit Sets
set_option linter.unusedVariables false
set_option linter.unusedSectionVars false
set_option linter.unusedSimpArgs false

theorem rlsame_yes (u v : Value) (La Lb : List Lab) (w : World) (ha : Row labC w u La) (hb : Row labC w v Lb) (h : La = Lb) :
    Calls Try.prog 19 #[u, v] w fun e w' => e = .returned (.bool true) ∧ Ext w w' := by
  refine (same_any u v La Lb w ha hb).mono ?_
  rintro e w' ⟨rfl, hx⟩
  exact ⟨by rw [decide_eq_true h], hx⟩
theorem okLost : okS ⟨#[108, 111, 115, 116]⟩ := by unfold okS; decide
set_option maxRecDepth 100000 in
set_option maxHeartbeats 60000000 in
theorem indexPlays_any (v : Value) (xs : List IOp) (y : Lab) (w : World) (h : Row opC w v xs) (hok : ∀ o ∈ xs, IOpOk w o) (hy : okL y) :
    Calls Try.prog 3 #[v, labV y] w fun e w' => e = .returned (.bool true) ∧ Ext w w' := by
  obtain ⟨A, n, c, rfl, hn, hnc, hc, hr⟩ := h
  have hc' : c ≤ 9223372036854775807 := by simpa [maxLen] using hc
  have HR := Lib.hid hr
  have HN := Lib.hid hn
  have HOK := Lib.hid hok
  have HY := Lib.hid hy
  clear hr hn hok hc hy
  obtain ⟨y1, y2⟩ := y
  simp only [labV]
  go_enter Try.func3, Try.ntmps3
  go_wp2_with fail
  have hb := heap_alloc_new w (.cells #[.string y1, .string y2] 24 (0, 0))
  have hx1 := Ext.alloc w (.cells #[.string y1, .string y2] 24)
  generalize w.alloc (.cells #[.string y1, .string y2] 24) = w1 at hb hx1 ⊢
  obtain ⟨q, hq⟩ : ∃ q, q = w.heap.size := ⟨_, rfl⟩
  rw [← hq] at hb
  rw [← hq]
  have hqw : q < w1.heap.size := (Array.getElem?_eq_some_iff.1 hb).1
  refine (new_list w1).mono ?_
  rintro e v0 ⟨x, L, rfl, hi, hx⟩
  have hg1 : Gx w v0 x L [] := ⟨hi.base hx1.size, hx1.trans hx⟩
  have HP0 := Lib.hid (⟨hg1.later (Ext.alloc v0 _), RefX.new v0⟩ : Px w (v0.alloc (.cells #[.slice none 0 0] 30)) x v0.heap.size L [])
  have HQ0 := Lib.hid ((Cm.of_ext (hx.trans (Ext.alloc v0 (.cells #[.slice none 0 0] 30)))).cells _ _ _ _ hb)
  have HRB := Lib.hid hg1.ext.size
  have HQR : Hid (q < v0.heap.size) := Lib.hid (Nat.lt_of_lt_of_le hqw hx.size)
  clear hi hx hg1 hx1 hb hqw hq
  go_upto_region 3 with fail
  generalize v0.alloc (.cells #[.slice none 0 0] 30) = v1 at HP0 HQ0 ⊢
  generalize v0.heap.size = r at HP0 HRB HQR ⊢
  have hq0 := heap_cell HQ0.out 0
  have hq1 := heap_cell HQ0.out 1
  by_cases hl1 : y1.size ≤ 100
  · have g1 : decide ((100 : Int) < (y1.size : Int)) = false := decide_eq_false (by omega)
    clear hl1
    by_cases hl2 : y2.size ≤ 100
    · have g2 : decide ((100 : Int) < (y2.size : Int)) = false := decide_eq_false (by omega)
      clear hl2
      go_wp2_with fail
      clear hq0 hq1
      go_loopw [5, 7] (fun xp i wr => ∃ (x k : Nat) (L : List Nat) (M : Mod), xp = .pointer (some ⟨x, 0, none⟩) ∧ k ≤ n ∧ k ≤ 40 ∧ i = .int .i64 (k : Int) ∧ Px w wr x r L M ∧ M.length ≤ k ∧ wr.heap[q]? = some (.cells #[.string y1, .string y2] 24 (0, 0))) (fun _ i _ => n - (intOf i).toNat)
      case atStart => exact ⟨x, 0, L, [], rfl, by omega, by omega, rfl, HP0.out, by simp, HQ0.out⟩
      case round =>
        obtain ⟨x, k, L, M, rfl, hk, hk40, rfl, hpx, hlen, hbq⟩ := hrel
        have HG := Lib.hid hpx
        have HQ := Lib.hid hbq
        clear hpx hbq
        by_cases hkn : k < n
        · by_cases hk4 : k < 40
          · obtain ⟨ad, rfl⟩ : ∃ ad, A = some ad := row_some HR.out opC_len (by decide) (by have := HN.out; omega)
            obtain ⟨o, ho⟩ : ∃ o, xs[k]? = some o := ⟨_, List.getElem?_eq_getElem (by have := HN.out; omega)⟩
            obtain ⟨c0, c1, c2⟩ := iop_cells (HR.out.ext HG.out.gx.ext) ho
            have HO := Lib.hid (HOK.out o (List.mem_of_getElem? ho))
            obtain ⟨kd, ky, u, ls⟩ := o
            dsimp only at c0 c1 c2
            clear ho
            obtain ⟨Au, nu, cu, hu, _⟩ := HO.out.row
            dsimp only at hu
            subst hu
            go_upto_region 9 with fail
            clear c0 c1 c2
            have hb := heap_alloc_new wr (.cells #[.int .i64 kd, .string ky, .slice Au nu cu] 34 (0, 0))
            have hxa := Ext.alloc wr (.cells #[.int .i64 kd, .string ky, .slice Au nu cu] 34)
            have HG1 := Lib.hid (HG.out.later hxa)
            have HQ1 := Lib.hid ((Cm.of_ext hxa).cells _ _ _ _ HQ.out)
            have HPR : Hid (r < wr.heap.size) := Lib.hid HG.out.ref.lt
            clear HG HQ hxa
            generalize wr.alloc (.cells #[.int .i64 kd, .string ky, .slice Au nu cu] 34) = v1 at hb HG1 HQ1 ⊢
            generalize wr.heap.size = p at hb HPR ⊢
            have HB := Lib.hid hb
            clear hb
            have hB0 := heap_cell HB.out 0
            have hB1 := heap_cell HB.out 1
            have hB2 := heap_cell HB.out 2
            go_wp2_with fail
            clear hB0 hB1 hB2
            refine (light_any ⟨kd, ky, .slice Au nu cu, ls⟩ v1 (HO.out.ext HG1.out.gx.ext)).mono ?_
            rintro e v2 ⟨lt, rfl, hlt, hx⟩
            have HB2 := Lib.hid ((Cm.of_ext hx).cells _ _ _ _ HB.out)
            have HQ2 := Lib.hid ((Cm.of_ext hx).cells _ _ _ _ HQ1.out)
            have HG2 := Lib.hid (HG1.out.later hx)
            clear HB HQ1 HG1 hx
            cases lt with
            | false =>
              clear hlt
              go_wp2_with fail
              go_roundw
              case rel => exact ⟨x, k + 1, L, M, rfl, by omega, by omega, by go_num, HG2.out, by omega, HQ2.out⟩
              case measure => simp [intOf]; omega
            | true =>
              have hl12 : ls.length ≤ 12 := hlt rfl
              clear hlt
              have hB0 := heap_cell HB2.out 0
              have hB1 := heap_cell HB2.out 1
              have hB2 := heap_cell HB2.out 2
              go_upto_block 2 with fail
              go_cut [5, 9] from 52 to 86 (fun s5 s9 wx => ∃ (x' : Nat) (L' : List Nat) (M' : Mod), s5 = .pointer (some ⟨x', 0, none⟩) ∧ Px w wx x' r L' M' ∧ M'.length ≤ k + 1 ∧ wx.heap[p]? = some (.cells #[.int .i64 kd, .string ky, .slice Au nu cu] 34 (0, 0)) ∧ wx.heap[q]? = some (.cells #[.string y1, .string y2] 24 (0, 0)))
              case first =>
                have hpr : p ≠ r := by have := HPR.out; omega
                have hqr : q ≠ r := by have := HQR.out; omega
                by_cases h0 : kd = 0
                · subst h0
                  have hgx := HG2.out.gx
                  have hrf := HG2.out.ref
                  have hbp := HB2.out
                  have hbq := HQ2.out
                  have hM := hgx.at_.good
                  have hs0 : v2.cell? ⟨p, 1, none⟩ = some (.string ky) ∧ v2.cell? ⟨p, 2, none⟩ = some (.slice Au nu cu) := ⟨hB1, hB2⟩
                  clear hB1 hB2
                  go_upto_region 17 with fail
                  go_region_held3 (fun wz => wz.cell? ⟨p, 1, none⟩ = some (.string ky) ∧ wz.cell? ⟨p, 2, none⟩ = some (.slice Au nu cu)) (first | assumption | exact ⟨heap_cell hbp 1, heap_cell hbp 2⟩) (first
                    | (go_at_call 12
                       refine (set_list (hgx.later (Ext.drew v2)).at_ ky (.slice Au nu cu) ls HO.out.key ((HO.out.ext (hgx.later (Ext.drew v2)).ext).row) (by omega) HO.out.labs (by omega)).mono ?_
                       rintro e v3 ⟨rfl, hi, hkp, hcm⟩
                       have hgx2 := (hgx.later (Ext.drew v2)).did hi hkp
                       have hrf2 := (hrf.ext (Ext.drew v2)).cm hcm
                       have hbp2 := hcm.cells _ _ _ _ ((Kp.of_ext (L := []) (Ext.drew v2)).heap hbp (by simp))
                       have hbq2 := hcm.cells _ _ _ _ ((Kp.of_ext (L := []) (Ext.drew v2)).heap hbq (by simp))
                       clear hi hkp hcm hgx hrf hbp hbq
                       have hgx := hgx2
                       have hrf := hrf2
                       have hbp := hbp2
                       have hbq := hbq2)
                    | (go_at_call 13
                       refine (rSet_any r M ky (.slice Au nu cu) ls v3 hrf hM (by omega) HO.out.key (fun w' hk => ((HO.out.ext (hk.to_ext hgx.ext (by simpa using HRB.out))).row)) HO.out.labs).mono ?_
                       rintro e v4 ⟨rfl, hd⟩
                       have hgx2 := gx_past hgx hrf HRB.out hd.kp
                       have hbp2 := hd.kp.heap hbp (by simpa using hpr)
                       have hbq2 := hd.kp.heap hbq (by simpa using hqr)
                       have hrf2 := hd.at_
                       clear hd hgx hrf hbp hbq
                       have hgx := hgx2
                       have hrf := hrf2
                       have hbp := hbp2
                       have hbq := hbq2))
                  go_wp2_with fail
                  go_meet
                  exact ⟨x, L, _, rfl, ⟨hgx, hrf⟩, by have := len_put M ky ls; omega, hbp, hbq⟩
                · have h0' : (kd == 0) = false := by simpa using h0
                  clear h0
                  by_cases h1 : kd = 1
                  · subst h1
                    have hgx := HG2.out.gx
                    have hrf := HG2.out.ref
                    have hbp := HB2.out
                    have hbq := HQ2.out
                    have hs0 : v2.cell? ⟨p, 1, none⟩ = some (.string ky) := hB1
                    clear hB1 hB2
                    go_upto_region 20 with fail
                    go_region_held3 (fun wz => wz.cell? ⟨p, 1, none⟩ = some (.string ky)) (first | assumption | exact heap_cell hbp 1) (first
                      | (go_at_call 14
                         refine (drop_list (hgx.later (Ext.drew v2)).at_ ky HO.out.key (by omega)).mono ?_
                         rintro e v3 ⟨rfl, hi, hkp, hcm⟩
                         have hgx2 := (hgx.later (Ext.drew v2)).did hi hkp
                         have hrf2 := (hrf.ext (Ext.drew v2)).cm hcm
                         have hbp2 := hcm.cells _ _ _ _ ((Kp.of_ext (L := []) (Ext.drew v2)).heap hbp (by simp))
                         have hbq2 := hcm.cells _ _ _ _ ((Kp.of_ext (L := []) (Ext.drew v2)).heap hbq (by simp))
                         clear hi hkp hcm hgx hrf hbp hbq
                         have hgx := hgx2
                         have hrf := hrf2
                         have hbp := hbp2
                         have hbq := hbq2)
                      | (go_at_call 15
                         refine (rDrop_any r M ky v3 hrf (by omega)).mono ?_
                         rintro e v4 ⟨rfl, hd⟩
                         have hgx2 := gx_past hgx hrf HRB.out hd.kp
                         have hbp2 := hd.kp.heap hbp (by simpa using hpr)
                         have hbq2 := hd.kp.heap hbq (by simpa using hqr)
                         have hrf2 := hd.at_
                         clear hd hgx hrf hbp hbq
                         have hgx := hgx2
                         have hrf := hrf2
                         have hbp := hbp2
                         have hbq := hbq2))
                    go_wp2_with fail
                    go_meet
                    exact ⟨x, L, _, rfl, ⟨hgx, hrf⟩, by have := len_drop M ky; omega, hbp, hbq⟩
                  · have h1' : (kd == 1) = false := by simpa using h1
                    clear h1
                    go_wp2_with fail
                    clear hB0 hB1 hB2
                    refine (copy_list HG2.out.gx.at_ (by omega)).mono ?_
                    rintro e v3 ⟨cc, L', rfl, hcp, hx⟩
                    have HG3 := Lib.hid (HG2.out.later hx)
                    have HB3 := Lib.hid ((Cm.of_ext hx).cells _ _ _ _ HB2.out)
                    have HQ3 := Lib.hid ((Cm.of_ext hx).cells _ _ _ _ HQ2.out)
                    have HCP := Lib.hid (hcp.base HG2.out.gx.ext.size)
                    have HDJ : Hid (∀ k ∈ L', k ∉ L) := Lib.hid (fun k hk hkl => by
                      have h1 := hcp.blocks k hk
                      have h2 := HG2.out.gx.at_.blocks k hkl
                      omega)
                    clear hcp hx HG2 HB2 HQ2
                    go_wp2_with fail
                    refine (set_list HG3.out.gx.at_ ⟨#[108, 111, 115, 116]⟩ (.slice none 0 0) [] okLost (row_nil _) (by simp) (by simp) (by omega)).mono ?_
                    rintro e v4 ⟨rfl, hi, hkp, hcm⟩
                    have HG4 := Lib.hid (⟨⟨HCP.out.kp hkp hcm HDJ.out, (HG3.out.gx.did hi hkp).ext⟩, HG3.out.ref.cm hcm⟩ : Px w v4 cc r L' M)
                    have HB4 := Lib.hid (hcm.cells _ _ _ _ HB3.out)
                    have HQ4 := Lib.hid (hcm.cells _ _ _ _ HQ3.out)
                    clear hi hkp hcm
                    go_wp2_with fail
                    go_meet
                    exact ⟨cc, L', M, rfl, HG4.out, by omega, HB4.out, HQ4.out⟩
              case rest =>
                obtain ⟨x', L', M', rfl, hpx, hl', hbp, hbq⟩ := hcut
                have HG3 := Lib.hid hpx
                have HB3 := Lib.hid hbp
                have HQ3 := Lib.hid hbq
                have hb1 := heap_cell HB3.out 1
                clear hpx hbp hbq HG2 HB2 HQ2 hB0 hB1 hB2
                go_wp2_with fail
                refine (labels_list HG3.out.gx.at_ ky HO.out.key).mono ?_
                rintro e v4 ⟨ua, rfl, hrow, hx⟩
                have HG4 := Lib.hid (HG3.out.later hx)
                have HB4 := Lib.hid ((Cm.of_ext hx).cells _ _ _ _ HB3.out)
                have HQ4 := Lib.hid ((Cm.of_ext hx).cells _ _ _ _ HQ3.out)
                have HLA := Lib.hid hrow
                clear HG3 HB3 HQ3 hrow hx hb1
                have hb1 := heap_cell HB4.out 1
                go_wp2_with fail
                refine (rLabels_any r M' ky v4 HG4.out.ref).mono ?_
                rintro e v5 ⟨ub, rfl, hrow, hx⟩
                have HG5 := Lib.hid (HG4.out.later hx)
                have HB5 := Lib.hid ((Cm.of_ext hx).cells _ _ _ _ HB4.out)
                have HQ5 := Lib.hid ((Cm.of_ext hx).cells _ _ _ _ HQ4.out)
                have HLA5 := Lib.hid (HLA.out.ext hx)
                have HLB5 := Lib.hid hrow
                have HGD := Lib.hid HG5.out.gx.at_.good
                have HSZ : Hid (sizeM M' ≤ 1000000) := Lib.hid (by have := size_le HGD.out; omega)
                have HML : Hid (M'.length ≤ 100000) := Lib.hid (by omega)
                have HFF := Lib.hid (fnd_find HGD.out y1 y2)
                have HFW := Lib.hid (fnd_with HGD.out y1 ⟨#[]⟩)
                obtain ⟨ib, hib⟩ : ∃ b, (lkM M' ky).isSome = b := ⟨_, rfl⟩
                rw [hib]
                have HIB := Lib.hid hib
                clear HG4 HB4 HQ4 HLA hrow hx hb1 hib
                have HS := Lib.hid (fun (wz : World) (hw : Ext v5 wz) => (And.intro (heap_cell ((Kp.of_ext (L := []) hw).heap HB5.out (by simp)) 1) (And.intro (heap_cell ((Kp.of_ext (L := []) hw).heap HQ5.out (by simp)) 0) (heap_cell ((Kp.of_ext (L := []) hw).heap HQ5.out (by simp)) 1)) : wz.cell? ⟨p, 1, none⟩ = some (.string ky) ∧ wz.cell? ⟨q, 0, none⟩ = some (.string y1) ∧ wz.cell? ⟨q, 1, none⟩ = some (.string y2)))
                have hs0 := HS.out v5 (Ext.refl _)
                go_upto_region 24 with fail
                go_region_held3 (fun wz => wz.cell? ⟨p, 1, none⟩ = some (.string ky) ∧ wz.cell? ⟨q, 0, none⟩ = some (.string y1) ∧ wz.cell? ⟨q, 1, none⟩ = some (.string y2)) (first | assumption | exact HS.out _ hxt) (first
                  | (go_at_call 19
                     refine (rlsame_yes ua ub _ _ _ (HLA5.out.ext (Ext.drew v5)) (HLB5.out.ext (Ext.drew v5)) rfl).mono ?_
                     rintro e v6 ⟨rfl, hx⟩
                     have hxt := (Ext.drew v5).trans hx
                     clear hx)
                  | (go_at_call 20
                     refine (has_list (HG5.out.later hxt).gx.at_ ky HO.out.key).mono ?_
                     rintro e _ ⟨rfl, rfl⟩
                     rw [HIB.out])
                  | (go_at_call 22
                     refine (keys_list (HG5.out.later hxt).gx.at_ HML.out).mono ?_
                     rintro e v7 ⟨uk, rfl, hKA, hx⟩
                     have hxt := hxt.trans hx
                     clear hx)
                  | (go_at_call 23
                     refine (rKeys_any r M' _ (HG5.out.later hxt).ref HML.out).mono ?_
                     rintro e v8 ⟨ur, rfl, hKB, hx⟩
                     have hxt := hxt.trans hx
                     replace hKA := hKA.ext hx
                     clear hx)
                  | (go_at_call_of 21 uk
                     refine (same_yes uk ur _ _ _ hKA hKB rfl).mono ?_
                     rintro e v9 ⟨rfl, hx⟩
                     have hxt := hxt.trans hx
                     clear hx hKA hKB)
                  | (go_at_call 24
                     refine (size_list (HG5.out.later hxt).gx.at_ HML.out).mono ?_
                     rintro e v10 ⟨rfl, hx⟩
                     have hxt := hxt.trans hx
                     clear hx)
                  | (go_at_call 25
                     refine (rSize_any r M' _ (HG5.out.later hxt).ref HSZ.out).mono ?_
                     rintro e _ ⟨rfl, rfl⟩)
                  | (go_at_call 26
                     refine (find_list (HG5.out.later hxt).gx.at_ (y1, y2) HY.out HML.out).mono ?_
                     rintro e v11 ⟨uf, rfl, hFA, hx⟩
                     have hxt := hxt.trans hx
                     clear hx)
                  | (go_at_call_of 27 (Value.bool false)
                     refine (rFind_any r M' y1 y2 false _ (HG5.out.later hxt).ref HGD.out HML.out).mono ?_
                     rintro e v12 ⟨ug, rfl, hFB, hx⟩
                     have hxt := hxt.trans hx
                     replace hFA := hFA.ext hx
                     clear hx)
                  | (go_at_call_of 21 uf
                     refine (same_yes uf ug _ _ _ hFA hFB HFF.out.symm).mono ?_
                     rintro e v13 ⟨rfl, hx⟩
                     have hxt := hxt.trans hx
                     clear hx hFA hFB)
                  | (go_at_call 28
                     refine (with_list (HG5.out.later hxt).gx.at_ y1 HY.out.1 HML.out).mono ?_
                     rintro e v14 ⟨uw, rfl, hWA, hx⟩
                     have hxt := hxt.trans hx
                     clear hx)
                  | (go_at_call_of 27 (Value.bool true)
                     refine (rFind_any r M' y1 ⟨#[]⟩ true _ (HG5.out.later hxt).ref HGD.out HML.out).mono ?_
                     rintro e v15 ⟨uv, rfl, hWB, hx⟩
                     have hxt := hxt.trans hx
                     replace hWA := hWA.ext hx
                     clear hx)
                  | (go_at_call_of 21 uw
                     refine (same_yes uw uv _ _ _ hWA hWB HFW.out.symm).mono ?_
                     rintro e v16 ⟨rfl, hx⟩
                     have hxt := hxt.trans hx
                     clear hx hWA hWB))
                have HG6 := Lib.hid (HG5.out.later hxt)
                have HB6 := Lib.hid ((Cm.of_ext hxt).cells _ _ _ _ HB5.out)
                have HQ6 := Lib.hid ((Cm.of_ext hxt).cells _ _ _ _ HQ5.out)
                have hs1 : v16.cell? ⟨p, 1, none⟩ = some (.string ky) ∧ v16.cell? ⟨p, 2, none⟩ = some (.slice Au nu cu) := ⟨heap_cell HB6.out 1, heap_cell HB6.out 2⟩
                obtain ⟨ik, hik⟩ : ∃ b, keyI ky = b := ⟨_, rfl⟩
                obtain ⟨ir, hir⟩ : ∃ b, rightI ls = b := ⟨_, rfl⟩
                have HIK := Lib.hid hik
                have HIR := Lib.hid hir
                clear hxt hik hir hs0 HS HFF HFW HLA5 HLB5 HG5 HB5 HQ5 HIB
                go_upto_region 26 with fail
                go_region_held3 (fun wz => wz.cell? ⟨p, 1, none⟩ = some (.string ky) ∧ wz.cell? ⟨p, 2, none⟩ = some (.slice Au nu cu)) (first | assumption | exact ⟨heap_cell hbz 1, heap_cell hbz 2⟩) (first
                  | (go_at_call 29
                     refine (key_any ky _ HO.out.key).mono ?_
                     rintro e _ ⟨rfl, rfl⟩
                     rw [HIK.out])
                  | (go_at_call 30
                     refine (rkey_any ky _ HO.out.key).mono ?_
                     rintro e _ ⟨rfl, rfl⟩
                     rw [HIK.out])
                  | (go_at_call 31
                     refine (right_any (.slice Au nu cu) ls v16.drew ((HO.out.ext (HG6.out.gx.ext.trans (Ext.drew v16))).row) HO.out.labs (by omega)).mono ?_
                     rintro e v17 ⟨rfl, hx⟩
                     rw [HIR.out]
                     have hxz := (Ext.drew v16).trans hx
                     have hbz := (Cm.of_ext hxz).cells _ _ _ _ HB6.out
                     clear hx)
                  | (go_at_call 32
                     refine (lright_any (.slice Au nu cu) ls v17 ((HO.out.ext (HG6.out.gx.ext.trans hxz)).row) HO.out.labs).mono ?_
                     rintro e v18 ⟨rfl, hx⟩
                     rw [HIR.out]
                     have hxz := hxz.trans hx
                     have hbz := (Cm.of_ext hxz).cells _ _ _ _ HB6.out
                     clear hx))
                have HG7 := Lib.hid (HG6.out.later hxz)
                have HQ7 := Lib.hid ((Cm.of_ext hxz).cells _ _ _ _ HQ6.out)
                go_wp2_with fail
                go_roundw
                case rel => exact ⟨x', k + 1, L', M', rfl, by omega, by omega, by go_num, HG7.out, by omega, HQ7.out⟩
                case measure => simp [intOf]; omega
          · obtain rfl : k = 40 := by omega
            go_wp2_with fail
            refine (known_any _).mono ?_
            rintro e v3 ⟨rfl, hx3⟩
            go_wp2_with fail
            go_ret
            exact ⟨rfl, HG.out.gx.ext.trans hx3⟩
        · obtain rfl : k = n := by omega
          go_wp2_with fail
          refine (known_any _).mono ?_
          rintro e v3 ⟨rfl, hx3⟩
          go_wp2_with fail
          go_ret
          exact ⟨rfl, HG.out.gx.ext.trans hx3⟩
    · have g2 : decide ((100 : Int) < (y2.size : Int)) = true := decide_eq_true (by omega)
      go_wp2_with fail
      refine (known_any _).mono ?_
      rintro e v3 ⟨rfl, hx3⟩
      go_wp2_with fail
      go_ret
      exact ⟨rfl, HP0.out.gx.ext.trans hx3⟩
  · have g1 : decide ((100 : Int) < (y1.size : Int)) = true := decide_eq_true (by omega)
    go_wp2_with fail
    refine (known_any _).mono ?_
    rintro e v3 ⟨rfl, hx3⟩
    go_wp2_with fail
    go_ret
    exact ⟨rfl, HP0.out.gx.ext.trans hx3⟩
end Go.Proofs.Ytebcjpapmjebgaa
