/- FilterTells walked. -/
import Derived.Test.YtccjbmmhdbainaaFltX
import Derived.Deep.RegionHeld3
namespace Go.Proofs.Ytccjbmmhdbainaa
open Go.RowKit Sets
set_option linter.unusedVariables false
set_option linter.unusedSectionVars false
set_option linter.unusedSimpArgs false
set_option maxRecDepth 100000

set_option maxHeartbeats 20000000 in
theorem filterTells_any (a b : Tm) (u1 u2 v : Value) (l : List Lab) (w : World) (ha : Txt w u1 a.vals) (hao : TmOk a) (hb : Txt w u2 b.vals) (hbo : TmOk b) (hl : Row labC w v l) :
    Calls Try.prog 3 #[tmV a u1, tmV b u2, v] w fun e w' => e = .returned (.bool true) ∧ Ext w w' := by
  obtain ⟨na, ta, va⟩ := a
  obtain ⟨nb, tb, vb⟩ := b
  have HA := Lib.hid ha
  have HB := Lib.hid hb
  have HL := Lib.hid hl
  have HAO := Lib.hid hao
  have HBO := Lib.hid hbo
  obtain ⟨A, n, c, rfl, _⟩ := ha
  obtain ⟨B, m, d, rfl, _⟩ := hb
  obtain ⟨A3, n3, c3, rfl, _⟩ := hl
  clear hao hbo
  simp only [tmV]
  go_enter Try.func3, Try.ntmps3
  go_upto_region 1 with fail
  have hb := heap_alloc_new w (.cells #[.string na, .bool ta, .slice A n c] 24 (0, 0))
  have hx1 := Ext.alloc w (.cells #[.string na, .bool ta, .slice A n c] 24)
  have hs1 : (w.alloc (.cells #[.string na, .bool ta, .slice A n c] 24)).heap.size = w.heap.size + 1 := by simp
  generalize w.alloc (.cells #[.string na, .bool ta, .slice A n c] 24) = w1 at hb hx1 hs1 ⊢
  generalize w.heap.size = p at hb hs1 ⊢
  have hb2 := heap_alloc_new w1 (.cells #[.string nb, .bool tb, .slice B m d] 24 (0, 0))
  have hx2 := Ext.alloc w1 (.cells #[.string nb, .bool tb, .slice B m d] 24)
  have hbp := (Cm.of_ext hx2).cells _ _ _ _ hb
  have HX := Lib.hid (hx1.trans hx2)
  clear hx1 hx2 hb
  generalize w1.alloc (.cells #[.string nb, .bool tb, .slice B m d] 24) = w2 at hb2 hbp HX ⊢
  rw [hs1] at hb2
  clear hs1
  generalize p + 1 = q at hb2 ⊢
  have HP := Lib.hid hbp
  have HQ := Lib.hid hb2
  clear hbp hb2
  obtain ⟨d0, d1, d2⟩ := tm_cells HP.out (Ext.refl _)
  obtain ⟨e0, e1, e2⟩ := tm_cells HQ.out (Ext.refl _)
  go_wp2_with fail
  refine (tlight_any ⟨na, ta, va⟩ (.slice A n c) w2 (HA.out.ext HX.out)).mono ?_
  rintro e v3 ⟨⟨ba, rfl, hba⟩, hx⟩
  have HX3 := Lib.hid hx
  clear hx d0 d1 d2 e0 e1 e2
  obtain ⟨d0, d1, d2⟩ := tm_cells HP.out HX3.out
  obtain ⟨e0, e1, e2⟩ := tm_cells HQ.out HX3.out
  cases ba with
  | false =>
    clear hba
    go_wp2_with fail
    refine (known_any _).mono ?_
    rintro e v9 ⟨rfl, hx9⟩
    go_wp2_with fail
    go_ret
    exact ⟨rfl, (HX.out.trans HX3.out).trans hx9⟩
  | true =>
    clear hba
    go_wp2_with fail
    refine (tlight_any ⟨nb, tb, vb⟩ (.slice B m d) v3 (HB.out.ext (HX.out.trans HX3.out))).mono ?_
    rintro e v4 ⟨⟨bb, rfl, hbb⟩, hx⟩
    have HX4 := Lib.hid (HX3.out.trans hx)
    clear hx d0 d1 d2 e0 e1 e2 hbb
    cases bb with
    | false =>
      go_wp2_with fail
      refine (known_any _).mono ?_
      rintro e v9 ⟨rfl, hx9⟩
      go_wp2_with fail
      go_ret
      exact ⟨rfl, (HX.out.trans HX4.out).trans hx9⟩
    | true =>
      by_cases h12 : n3 ≤ 12
      · have h12I : decide ((12 : Int) < (n3 : Int)) = false := decide_eq_false (by omega)
        have h12J : decide (12 < n3) = false := decide_eq_false (by omega)
        have HXX := Lib.hid (HX.out.trans HX4.out)
        have HAX := Lib.hid (HA.out.ext HXX.out)
        have HBX := Lib.hid (HB.out.ext HXX.out)
        have HLX := Lib.hid (HL.out.ext HXX.out)
        have HS := Lib.hid (fun (wz : World) (hw : Ext v4 wz) => (And.intro (tm_cells HP.out (HX4.out.trans hw)) (tm_cells HQ.out (HX4.out.trans hw)) : (wz.cell? ⟨p, 0, none⟩ = some (.string na) ∧ wz.cell? ⟨p, 1, none⟩ = some (.bool ta) ∧ wz.cell? ⟨p, 2, none⟩ = some (.slice A n c)) ∧ (wz.cell? ⟨q, 0, none⟩ = some (.string nb) ∧ wz.cell? ⟨q, 1, none⟩ = some (.bool tb) ∧ wz.cell? ⟨q, 2, none⟩ = some (.slice B m d))))
        have hs0 := HS.out v4 (Ext.refl _)
        obtain ⟨ra, hra⟩ : ∃ x, rightT ⟨na, ta, va⟩ = x := ⟨_, rfl⟩
        obtain ⟨wa, hwa⟩ : ∃ x, wordB na = x := ⟨_, rfl⟩
        obtain ⟨sa, hsa⟩ : ∃ x, sameT ⟨na, ta, va⟩ ⟨nb, tb, vb⟩ = x := ⟨_, rfl⟩
        obtain ⟨ma, hma⟩ : ∃ x, matchT ⟨na, ta, va⟩ l = x := ⟨_, rfl⟩
        have HRA := Lib.hid hra
        have HWA := Lib.hid hwa
        have HSA := Lib.hid hsa
        have HMA := Lib.hid hma
        clear h12 hra hwa hsa hma
        go_upto_region 3 with fail
        go_region_held3 (fun wz => (wz.cell? ⟨p, 0, none⟩ = some (.string na) ∧ wz.cell? ⟨p, 1, none⟩ = some (.bool ta) ∧ wz.cell? ⟨p, 2, none⟩ = some (.slice A n c)) ∧ (wz.cell? ⟨q, 0, none⟩ = some (.string nb) ∧ wz.cell? ⟨q, 1, none⟩ = some (.bool tb) ∧ wz.cell? ⟨q, 2, none⟩ = some (.slice B m d))) (first | assumption | exact HS.out _ hxt) (first
          | (go_at_call 11
             refine (show_any ⟨na, ta, va⟩ (.slice A n c) _ (HAX.out.ext (Ext.drew v4)) HAO.out).mono ?_
             rintro e v5 ⟨t1, rfl, ht1, hx⟩
             have hxt := (Ext.drew v4).trans hx
             clear hx)
          | (go_at_call_of 13 (Value.string nb)
             refine (plain_any ⟨nb, tb, vb⟩ (.slice B m d) _ (HBX.out.ext hxt)).mono ?_
             rintro e v6 ⟨rfl, hx⟩
             simp only [tmV]
             have hxt := hxt.trans hx
             clear hx)
          | (go_at_call 13
             refine (plain_any ⟨na, ta, va⟩ (.slice A n c) _ (HAX.out.ext hxt)).mono ?_
             rintro e v6 ⟨rfl, hx⟩
             simp only [tmV]
             have hxt := hxt.trans hx
             clear hx)
          | (go_at_call 12
             refine (rshow_any ⟨na, ta, va⟩ (.slice A n c) _ (HAX.out.ext hxt) HAO.out).mono ?_
             rintro e v7 ⟨t2, rfl, ht2, hx⟩
             obtain rfl : t2 = t1 := bytes_ext (ht2.trans ht1.symm)
             have hxt := hxt.trans hx
             clear hx ht1 ht2)
          | (go_at_call 14
             refine (right_term ⟨na, ta, va⟩ (.slice A n c) _ (HAX.out.ext hxt) HAO.out).mono ?_
             rintro e v8 ⟨rfl, hx⟩
             rw [HRA.out]
             have hxt := hxt.trans hx
             clear hx)
          | (go_at_call 15
             refine (rright_term ⟨na, ta, va⟩ (.slice A n c) _ (HAX.out.ext hxt) HAO.out).mono ?_
             rintro e v9 ⟨rfl, hx⟩
             rw [HRA.out]
             have hxt := hxt.trans hx
             clear hx)
          | (go_at_call 16
             refine (word_any na _ HAO.out.name).mono ?_
             rintro e v10 ⟨rfl, hx⟩
             rw [HWA.out]
             have hxt := hxt.trans hx
             clear hx)
          | (go_at_call 17
             refine (rword_any na _ HAO.out.name).mono ?_
             rintro e _ ⟨rfl, rfl⟩
             rw [HWA.out])
          | (go_at_call 18
             refine (tsame_any ⟨na, ta, va⟩ ⟨nb, tb, vb⟩ (.slice A n c) (.slice B m d) _ (HAX.out.ext hxt) (HBX.out.ext hxt)).mono ?_
             rintro e v11 ⟨rfl, hx⟩
             rw [HSA.out]
             have hxt := hxt.trans hx
             clear hx)
          | (go_at_call 19
             refine (rsame_any ⟨na, ta, va⟩ ⟨nb, tb, vb⟩ (.slice A n c) (.slice B m d) _ (HAX.out.ext hxt) (HBX.out.ext hxt)).mono ?_
             rintro e v12 ⟨rfl, hx⟩
             rw [HSA.out]
             have hxt := hxt.trans hx
             clear hx)
          | (go_at_call 20
             refine (match_any ⟨na, ta, va⟩ (.slice A n c) (.slice A3 n3 c3) l _ (HAX.out.ext hxt) (HLX.out.ext hxt)).mono ?_
             rintro e v13 ⟨rfl, hx⟩
             rw [HMA.out]
             have hxt := hxt.trans hx
             clear hx)
          | (go_at_call 21
             refine (rmatch_any ⟨na, ta, va⟩ (.slice A n c) (.slice A3 n3 c3) l _ (HAX.out.ext hxt) (HLX.out.ext hxt)).mono ?_
             rintro e v14 ⟨rfl, hx⟩
             rw [HMA.out]
             have hxt := hxt.trans hx
             clear hx)
          | (go_at_call 10
             refine (known_any _).mono ?_
             rintro e v15 ⟨rfl, hx⟩
             have hxt := hxt.trans hx
             clear hx))
        go_wp2_with fail
        go_ret
        exact ⟨rfl, HXX.out.trans hxt⟩
      · have h12I : (12 : Int) < (n3 : Int) := by omega
        clear h12
        go_wp2_with fail
        refine (known_any _).mono ?_
        rintro e v9 ⟨rfl, hx9⟩
        go_wp2_with fail
        go_ret
        exact ⟨rfl, (HX.out.trans HX4.out).trans hx9⟩
end Go.Proofs.Ytccjbmmhdbainaa
