/- Do labels match: package filter, and the document. -/
import Derived.Test.YtccjbmmhdbainaaFltA
import Derived.Deep.RegionHeld3
import Derived.WalkMore
namespace Go.Proofs.Ytccjbmmhdbainaa
open Go.RowKit Sets
set_option linter.unusedVariables false
set_option linter.unusedSectionVars false
set_option linter.unusedSimpArgs false
set_option maxRecDepth 100000

theorem fnd_next {l : List Lab} {k : Nat} {n : ByteArray} {y : Lab} (h : (l.take k).find? (fun y => decide (y.1 = n)) = none) (hy : l[k]? = some y) : (l.take (k + 1)).find? (fun y => decide (y.1 = n)) = if y.1 = n then some y else none := by
  rw [take_snoc hy, List.find?_append, h]
  simp only [Option.none_or, List.find?_cons, List.find?_nil]
  by_cases hh : y.1 = n
  · simp [hh]
  · simp [hh]
theorem match_at {t : Tm} {l : List Lab} {k : Nat} {y : Lab} (h : (l.take k).find? (fun y => decide (y.1 = t.name)) = none) (hy : l[k]? = some y) (e : y.1 = t.name) : matchT t l = if t.vals.length = 0 then t.not else hasB t.vals y.2 != t.not := by
  have h2 := fnd_next h hy
  rw [if_pos e] at h2
  unfold matchT
  rw [← List.take_append_drop (k + 1) l, List.find?_append, h2]
  rfl
theorem match_end {t : Tm} {l : List Lab} (h : l.find? (fun y => decide (y.1 = t.name)) = none) : matchT t l = (decide (t.vals.length = 0) != t.not) := by
  unfold matchT
  rw [h]
set_option maxHeartbeats 4000000 in
theorem match_any (t : Tm) (u v : Value) (l : List Lab) (w : World) (h : Txt w u t.vals) (hl : Row labC w v l) :
    Calls Try.prog 20 #[tmV t u, v] w fun e w' => e = .returned (.bool (matchT t l)) ∧ Ext w w' := by
  obtain ⟨name, nt, vals⟩ := t
  have HT := Lib.hid h
  obtain ⟨A, n, c, rfl, hn, hnc, hc, hr⟩ := h
  obtain ⟨A2, n2, c2, rfl, hn2, hnc2, hc2, hr2⟩ := hl
  dsimp only at hn
  have HN := Lib.hid hn
  have HR2 := Lib.hid hr2
  have HN2 := Lib.hid hn2
  have hc3 : c2 ≤ 9223372036854775807 := by simpa [maxLen] using hc2
  clear hr hn hr2 hn2 hc2
  simp only [tmV]
  go_enter Try.func20, Try.ntmps20
  go_upto_region 1 with fail
  have hb := heap_alloc_new w (.cells #[.string name, .bool nt, .slice A n c] 24 (0, 0))
  have hx1 := Ext.alloc w (.cells #[.string name, .bool nt, .slice A n c] 24)
  generalize w.alloc (.cells #[.string name, .bool nt, .slice A n c] 24) = w1 at hb hx1 ⊢
  generalize w.heap.size = p at hb ⊢
  have HB := Lib.hid hb
  have HX1 := Lib.hid hx1
  clear hb hx1
  go_step3
  refine wp_seq ?_
  go_step3
  go_wp2_with fail
  go_loopw [9] (fun i wr => ∃ k : Nat, k ≤ n2 ∧ i = .int .i64 (k : Int) ∧ Hid ((l.take k).find? (fun y => decide (y.1 = name)) = none) ∧ Ext w1 wr) (fun i _ => n2 - (intOf i).toNat)
  case atStart => exact ⟨0, by omega, rfl, Lib.hid rfl, Ext.refl _⟩
  case round =>
    obtain ⟨k, hk, rfl, HF, hx⟩ := hrel
    have HX := Lib.hid hx
    clear hx
    by_cases hkn : k < n2
    · have hkI : (k : Int) < (n2 : Int) := by omega
      have hkJ : (0 : Int) ≤ (k : Int) := by omega
      obtain ⟨y, hy⟩ : ∃ x, l[k]? = some x := ⟨_, List.getElem?_eq_getElem (by have := HN2.out; omega)⟩
      obtain ⟨ad, rfl⟩ : ∃ ad, A2 = some ad := row_some HR2.out labC_len (by decide) (by have := HN2.out; omega)
      obtain ⟨r0, r1⟩ := lab_cells ((HR2.out.ext HX1.out).ext HX.out) hy
      have HNX := Lib.hid (fnd_next HF.out hy)
      have HAT := Lib.hid (fun e => match_at (t := ⟨name, nt, vals⟩) HF.out hy e)
      obtain ⟨y1, y2⟩ := y
      dsimp only at r0 r1 HNX HAT
      clear hy
      have hxa := Ext.alloc wr (.cells #[.string y1, .string y2] 69)
      have hba := heap_alloc_new wr (.cells #[.string y1, .string y2] 69 (0, 0))
      go_upto_region 4 with fail
      have HX4 := Lib.hid (HX.out.trans hxa)
      generalize wr.alloc (.cells #[.string y1, .string y2] 69) = v4 at hxa hba HX4 ⊢
      generalize wr.heap.size = q at hba ⊢
      obtain ⟨d0, d1, d2⟩ := tm_cells HB.out HX4.out
      have q0 := heap_cell hba 0
      have q1 := heap_cell hba 1
      clear hxa hba r0 r1
      by_cases hd : y1 = name
      · have HM := Lib.hid (HAT.out hd)
        subst hd
        by_cases hn0 : n = 0
        · have HM2 : Hid (matchT ⟨y1, nt, vals⟩ l = nt) := Lib.hid (by rw [HM.out, if_pos (by rw [HN.out]; exact hn0)])
          have hnI : ((n : Int) == 0) = true := by rw [beq_iff_eq]; omega
          have hnJ : (n == 0) = true := by rw [beq_iff_eq]; exact hn0
          clear hn0
          go_wp2_with fail
          go_ret
          exact ⟨by rw [HM2.out]; rfl, HX1.out.trans HX4.out⟩
        · have HM2 : Hid (matchT ⟨y1, nt, vals⟩ l = (hasB vals y2 != nt)) := Lib.hid (by rw [HM.out, if_neg (by rw [HN.out]; exact hn0)])
          have hnI : ((n : Int) == 0) = false := by rw [beq_eq_false_iff_ne]; omega
          have hnJ : (n == 0) = false := by rw [beq_eq_false_iff_ne]; exact hn0
          have hs0 : v4.cell? ⟨p, 1, none⟩ = some (.bool nt) ∧ v4.cell? ⟨p, 2, none⟩ = some (.slice A n c) ∧ v4.cell? ⟨q, 1, none⟩ = some (.string y2) := ⟨d1, d2, q1⟩
          clear hn0
          go_upto_region 7 with fail
          go_region_held3 (fun wz => wz.cell? ⟨p, 1, none⟩ = some (.bool nt) ∧ wz.cell? ⟨p, 2, none⟩ = some (.slice A n c) ∧ wz.cell? ⟨q, 1, none⟩ = some (.string y2)) (first | assumption | exact hs5) (first
            | (go_at_call 36
               refine (has_txt (.slice A n c) vals y2 v4.drew (((HT.out.ext HX1.out).ext HX4.out).ext (Ext.drew v4))).mono ?_
               rintro e _ ⟨rfl, rfl⟩
               have hs5 := And.intro ((Ext.drew v4).cell hs0.1) (And.intro ((Ext.drew v4).cell hs0.2.1) ((Ext.drew v4).cell hs0.2.2))))
          go_wp2_with fail
          rw [Exit.noGoto_ret]
          go_ret
          exact ⟨by rw [HM2.out]; rfl, (HX1.out.trans HX4.out).trans (Ext.drew v4)⟩
      · have HN3 := Lib.hid (HNX.out.trans (if_neg hd))
        have e1 : (y1.toList == name.toList) = false := by rw [eq_dec]; exact decide_eq_false hd
        have e2 : (y1.toList != name.toList) = true := by rw [bne, e1]; rfl
        clear hd
        go_wp2_with fail
        go_roundw
        case rel => exact ⟨k + 1, by omega, by go_num, HN3, HX4.out⟩
        case measure => simp [intOf]; omega
    · obtain rfl : k = n2 := by omega
      have HM := Lib.hid (match_end (t := ⟨name, nt, vals⟩) (l := l) (by have := HF.out; rwa [List.take_of_length_le (by rw [HN2.out]; exact Nat.le_refl _)] at this))
      obtain ⟨d0, d1, d2⟩ := tm_cells HB.out HX.out
      by_cases hn0 : n = 0
      · have HM2 : Hid (matchT ⟨name, nt, vals⟩ l = !nt) := Lib.hid (by
          rw [HM.out, decide_eq_true (p := vals.length = 0) (by rw [HN.out]; exact hn0)]
          cases nt <;> rfl)
        have hnI : ((n : Int) == 0) = true := by rw [beq_iff_eq]; omega
        have hnJ : (n == 0) = true := by rw [beq_iff_eq]; exact hn0
        clear hn0
        cases nt
        all_goals
          go_wp2_with fail
          go_ret
          exact ⟨by rw [HM2.out]; rfl, HX1.out.trans HX.out⟩
      · have HM2 : Hid (matchT ⟨name, nt, vals⟩ l = nt) := Lib.hid (by
          rw [HM.out, decide_eq_false (p := vals.length = 0) (by rw [HN.out]; exact hn0)]
          cases nt <;> rfl)
        have hnI : ((n : Int) == 0) = false := by rw [beq_eq_false_iff_ne]; omega
        have hnJ : (n == 0) = false := by rw [beq_eq_false_iff_ne]; exact hn0
        clear hn0
        cases nt
        all_goals
          go_wp2_with fail
          go_ret
          exact ⟨by rw [HM2.out]; rfl, HX1.out.trans HX.out⟩
set_option maxHeartbeats 4000000 in
theorem rmatch_any (t : Tm) (u v : Value) (l : List Lab) (w : World) (h : Txt w u t.vals) (hl : Row labC w v l) :
    Calls Try.prog 21 #[tmV t u, v] w fun e w' => e = .returned (.bool (matchT t l)) ∧ Ext w w' := by
  obtain ⟨name, nt, vals⟩ := t
  have HT := Lib.hid h
  obtain ⟨A, n, c, rfl, hn, hnc, hc, hr⟩ := h
  obtain ⟨A2, n2, c2, rfl, hn2, hnc2, hc2, hr2⟩ := hl
  dsimp only at hn
  have HN := Lib.hid hn
  have HR2 := Lib.hid hr2
  have HN2 := Lib.hid hn2
  have hc3 : c2 ≤ 9223372036854775807 := by simpa [maxLen] using hc2
  clear hr hn hr2 hn2 hc2
  simp only [tmV]
  go_enter Try.func21, Try.ntmps21
  go_upto_region 1 with fail
  have hb := heap_alloc_new w (.cells #[.string name, .bool nt, .slice A n c] 30 (0, 0))
  have hx1 := Ext.alloc w (.cells #[.string name, .bool nt, .slice A n c] 30)
  generalize w.alloc (.cells #[.string name, .bool nt, .slice A n c] 30) = w1 at hb hx1 ⊢
  generalize w.heap.size = p at hb ⊢
  have HB := Lib.hid hb
  have HX1 := Lib.hid hx1
  clear hb hx1
  go_wp2_with fail
  go_loopw [5] (fun i wr => ∃ k : Nat, k ≤ n2 ∧ i = .int .i64 (k : Int) ∧ Hid ((l.take k).find? (fun y => decide (y.1 = name)) = none) ∧ Ext w1 wr) (fun i _ => n2 - (intOf i).toNat)
  case atStart => exact ⟨0, by omega, rfl, Lib.hid rfl, Ext.refl _⟩
  case round =>
    obtain ⟨k, hk, rfl, HF, hx⟩ := hrel
    have HX := Lib.hid hx
    clear hx
    obtain ⟨d0, d1, d2⟩ := tm_cells HB.out HX.out
    by_cases hkn : k < n2
    · have hkI : (k : Int) < (n2 : Int) := by omega
      have hkJ : (0 : Int) ≤ (k : Int) := by omega
      obtain ⟨y, hy⟩ : ∃ x, l[k]? = some x := ⟨_, List.getElem?_eq_getElem (by have := HN2.out; omega)⟩
      obtain ⟨ad, rfl⟩ : ∃ ad, A2 = some ad := row_some HR2.out labC_len (by decide) (by have := HN2.out; omega)
      obtain ⟨r0, r1⟩ := lab_cells ((HR2.out.ext HX1.out).ext HX.out) hy
      have HNX := Lib.hid (fnd_next HF.out hy)
      have HAT := Lib.hid (fun e => match_at (t := ⟨name, nt, vals⟩) HF.out hy e)
      obtain ⟨y1, y2⟩ := y
      dsimp only at r0 r1 HNX HAT
      clear hy
      by_cases hd : y1 = name
      · have HM := Lib.hid (HAT.out hd)
        subst hd
        by_cases hn0 : n = 0
        · have HM2 : Hid (matchT ⟨y1, nt, vals⟩ l = nt) := Lib.hid (by rw [HM.out, if_pos (by rw [HN.out]; exact hn0)])
          have hnI : ((n : Int) == 0) = true := by rw [beq_iff_eq]; omega
          have hnJ : (n == 0) = true := by rw [beq_iff_eq]; exact hn0
          clear hn0
          go_wp2_with fail
          go_quiet (fail)
          go_wp2_with fail
          go_ret
          exact ⟨by rw [HM2.out]; rfl, HX1.out.trans (HX.out.trans (Ext.drewN _ _))⟩
        · have HM2 : Hid (matchT ⟨y1, nt, vals⟩ l = (hasB vals y2 != nt)) := Lib.hid (by rw [HM.out, if_neg (by rw [HN.out]; exact hn0)])
          have hnI : ((n : Int) == 0) = false := by rw [beq_eq_false_iff_ne]; omega
          have hnJ : (n == 0) = false := by rw [beq_eq_false_iff_ne]; exact hn0
          clear hn0
          go_wp2_with fail
          go_quiet (fail)
          have hxq := Ext.drewN nq wr
          generalize wr.drewN nq = v4 at hxq ⊢
          have HX4 := Lib.hid (HX.out.trans hxq)
          have hs0 : v4.cell? ⟨p, 1, none⟩ = some (.bool nt) ∧ v4.cell? ⟨p, 2, none⟩ = some (.slice A n c) ∧ v4.cell? ⟨(ad.add (k * 2)).block, (ad.add (k * 2)).off + 1, none⟩ = some (.string y2) := ⟨hxq.cell d1, hxq.cell d2, hxq.cell r1⟩
          have d2' := hs0.2.1
          clear hxq d0 d1 d2 r0 r1
          go_upto_region 7 with fail
          go_region_held3 (fun wz => wz.cell? ⟨p, 1, none⟩ = some (.bool nt) ∧ wz.cell? ⟨p, 2, none⟩ = some (.slice A n c) ∧ wz.cell? ⟨(ad.add (k * 2)).block, (ad.add (k * 2)).off + 1, none⟩ = some (.string y2)) (first | assumption | exact hs5) (first
            | (go_at_call 37
               refine (rhas_txt (.slice A n c) vals y2 v4.drew (((HT.out.ext HX1.out).ext HX4.out).ext (Ext.drew v4))).mono ?_
               rintro e _ ⟨rfl, rfl⟩
               have hs5 := And.intro ((Ext.drew v4).cell hs0.1) (And.intro ((Ext.drew v4).cell hs0.2.1) ((Ext.drew v4).cell hs0.2.2))))
          go_wp2_with fail
          go_ret
          exact ⟨by rw [HM2.out]; rfl, (HX1.out.trans HX4.out).trans (Ext.drew v4)⟩
      · have HN3 := Lib.hid (HNX.out.trans (if_neg hd))
        have e1 : (y1.toList == name.toList) = false := by rw [eq_dec]; exact decide_eq_false hd
        clear hd
        go_wp2_with fail
        go_quiet (fail)
        go_wp2_with fail
        go_roundw
        case rel => exact ⟨k + 1, by omega, by go_num, HN3, HX.out.trans (Ext.drewN _ _)⟩
        case measure => simp [intOf]; omega
    · obtain rfl : k = n2 := by omega
      have HM := Lib.hid (match_end (t := ⟨name, nt, vals⟩) (l := l) (by have := HF.out; rwa [List.take_of_length_le (by rw [HN2.out]; exact Nat.le_refl _)] at this))
      by_cases hn0 : 0 < n
      · have HM2 : Hid (matchT ⟨name, nt, vals⟩ l = nt) := Lib.hid (by
          rw [HM.out, decide_eq_false (p := vals.length = 0) (by rw [HN.out]; omega)]
          cases nt <;> rfl)
        have hnI : (0 : Int) < (n : Int) := by omega
        cases nt
        all_goals
          go_wp2_with fail
          go_ret
          exact ⟨by rw [HM2.out]; rfl, HX1.out.trans HX.out⟩
      · have HM2 : Hid (matchT ⟨name, nt, vals⟩ l = !nt) := Lib.hid (by
          rw [HM.out, decide_eq_true (p := vals.length = 0) (by rw [HN.out]; omega)]
          cases nt <;> rfl)
        have hnI : decide ((0 : Int) < (n : Int)) = false := decide_eq_false (by omega)
        have hnJ : decide (0 < n) = false := decide_eq_false hn0
        clear hn0
        cases nt
        all_goals
          go_wp2_with fail
          go_ret
          exact ⟨by rw [HM2.out]; rfl, HX1.out.trans HX.out⟩
end Go.Proofs.Ytccjbmmhdbainaa

/- Terms that are alike; a term for the document; terms that ask little. -/
namespace Go.Proofs.Ytccjbmmhdbainaa
open Go.RowKit Sets
set_option linter.unusedVariables false
set_option linter.unusedSectionVars false
set_option linter.unusedSimpArgs false
set_option maxRecDepth 100000

theorem sameT_not {a b : Tm} (h : ¬ (a.name = b.name ∧ a.not = b.not ∧ a.vals = b.vals)) : sameT a b = false := by
  unfold sameT
  rw [Bool.eq_false_iff]
  intro hh
  rw [Bool.and_eq_true, Bool.and_eq_true, decide_eq_true_eq, decide_eq_true_eq, beq_iff_eq] at hh
  exact h ⟨hh.1, hh.2.1, hh.2.2⟩
theorem sameT_yes {a b : Tm} (h1 : a.name = b.name) (h2 : a.not = b.not) (h3 : a.vals = b.vals) : sameT a b = true := by
  unfold sameT
  rw [h1, h2, h3]
  simp
set_option maxHeartbeats 4000000 in
theorem tsame_any (a b : Tm) (u v : Value) (w : World) (ha : Txt w u a.vals) (hb : Txt w v b.vals) :
    Calls Try.prog 18 #[tmV a u, tmV b v] w fun e w' => e = .returned (.bool (sameT a b)) ∧ Ext w w' := by
  obtain ⟨na, ta, va⟩ := a
  obtain ⟨nb, tb, vb⟩ := b
  obtain ⟨A, n, c, rfl, hn, hnc, hc, hr⟩ := ha
  obtain ⟨B, m, d, rfl, hm, hmd, hd, hs⟩ := hb
  dsimp only at hn hr hm hs
  have HR := Lib.hid hr
  have HN := Lib.hid hn
  have HS := Lib.hid hs
  have HM := Lib.hid hm
  clear hr hn hs hm
  simp only [tmV]
  go_enter Try.func18, Try.ntmps18
  go_upto_region 1 with fail
  have hb := heap_alloc_new w (.cells #[.string na, .bool ta, .slice A n c] 24 (0, 0))
  have hx1 := Ext.alloc w (.cells #[.string na, .bool ta, .slice A n c] 24)
  have hs1 : (w.alloc (.cells #[.string na, .bool ta, .slice A n c] 24)).heap.size = w.heap.size + 1 := by simp
  generalize w.alloc (.cells #[.string na, .bool ta, .slice A n c] 24) = w1 at hb hx1 hs1 ⊢
  generalize w.heap.size = p at hb hs1 ⊢
  have hb2 := heap_alloc_new w1 (.cells #[.string nb, .bool tb, .slice B m d] 24 (0, 0))
  have hx2 := Ext.alloc w1 (.cells #[.string nb, .bool tb, .slice B m d] 24)
  have hbp := (Cm.of_ext hx2).cells _ _ _ _ hb
  have HX := Lib.hid (hx1.trans hx2)
  clear hx1 hx2 hb
  generalize w1.alloc (.cells #[.string nb, .bool tb, .slice B m d] 24) = w2 at hb2 hbp HX ⊢
  rw [hs1] at hb2
  clear hs1
  generalize p + 1 = q at hb2 ⊢
  have HP := Lib.hid hbp
  have HQ := Lib.hid hb2
  clear hbp hb2
  obtain ⟨d0, d1, d2⟩ := tm_cells HP.out (Ext.refl _)
  obtain ⟨e0, e1, e2⟩ := tm_cells HQ.out (Ext.refl _)
  by_cases h1 : na = nb
  · by_cases h2 : ta = tb
    · by_cases h3 : n = m
      · subst h1 h2 h3
        go_wp2_with fail
        clear d0 d1 d2 e0 e1 e2
        go_loopw [30] (fun i wr => ∃ k : Nat, k ≤ n ∧ i = .int .i64 (k : Int) ∧ Hid (va.take k = vb.take k) ∧ Ext w2 wr) (fun i _ => n - (intOf i).toNat)
        case atStart => exact ⟨0, by omega, rfl, Lib.hid rfl, Ext.refl _⟩
        case round =>
          obtain ⟨k, hk, rfl, HT, hx⟩ := hrel
          have HX2 := Lib.hid hx
          clear hx
          obtain ⟨d0, d1, d2⟩ := tm_cells HP.out HX2.out
          obtain ⟨e0, e1, e2⟩ := tm_cells HQ.out HX2.out
          by_cases hkn : k < n
          · have hkI : (k : Int) < (n : Int) := by omega
            have hkJ : (0 : Int) ≤ (k : Int) := by omega
            obtain ⟨x, hx⟩ : ∃ x, va[k]? = some x := ⟨_, List.getElem?_eq_getElem (by have := HN.out; omega)⟩
            obtain ⟨y, hy⟩ : ∃ x, vb[k]? = some x := ⟨_, List.getElem?_eq_getElem (by have := HM.out; omega)⟩
            obtain ⟨ad, rfl, c0⟩ := txt_cell ((HR.out.ext HX.out).ext HX2.out) hx
            obtain ⟨bd, rfl, c1⟩ := txt_cell ((HS.out.ext HX.out).ext HX2.out) hy
            by_cases hxy : x = y
            · have HT2 := Lib.hid (take_same HT.out hx hy hxy)
              subst hxy
              clear hx hy
              go_wp2_with fail
              go_quiet (fail)
              go_wp2_with fail
              go_roundw
              case rel => exact ⟨k + 1, by omega, by go_num, HT2, HX2.out.trans (Ext.drewN _ _)⟩
              case measure => simp [intOf]; omega
            · have HF : Hid (sameT ⟨na, ta, va⟩ ⟨na, ta, vb⟩ = false) := Lib.hid (sameT_not (fun h => same_no hx hy hxy h.2.2))
              have f1 : (x.toList == y.toList) = false := by rw [eq_dec]; exact decide_eq_false hxy
              clear hx hy hxy
              go_wp2_with fail
              go_quiet (fail)
              go_wp2_with fail
              go_ret
              exact ⟨by rw [HF.out]; rfl, HX.out.trans (HX2.out.trans (Ext.drewN _ _))⟩
          · obtain rfl : k = n := by omega
            have HF : Hid (sameT ⟨na, ta, va⟩ ⟨na, ta, vb⟩ = true) := Lib.hid (sameT_yes rfl rfl (by
              have := HT.out
              rwa [List.take_of_length_le (by rw [HN.out]; exact Nat.le_refl _), List.take_of_length_le (by rw [HM.out]; exact Nat.le_refl _)] at this))
            go_wp2_with fail
            go_ret
            exact ⟨by rw [HF.out]; rfl, HX.out.trans HX2.out⟩
      · have HF : Hid (sameT ⟨na, ta, va⟩ ⟨nb, tb, vb⟩ = false) := Lib.hid (sameT_not (fun h => h3 (by
          have := congrArg List.length h.2.2
          dsimp only at this
          rw [HN.out, HM.out] at this
          exact this)))
        have h3I : ((n : Int) == (m : Int)) = false := by rw [beq_eq_false_iff_ne]; omega
        have h3J : (n == m) = false := by rw [beq_eq_false_iff_ne]; exact h3
        subst h1 h2
        clear h3
        go_wp2_with fail
        go_ret
        exact ⟨by rw [HF.out]; rfl, HX.out⟩
    · have HF : Hid (sameT ⟨na, ta, va⟩ ⟨nb, tb, vb⟩ = false) := Lib.hid (sameT_not (fun h => h2 h.2.1))
      subst h1
      cases ta <;> cases tb
      · exact absurd rfl h2
      · clear h2
        go_wp2_with fail
        go_ret
        exact ⟨by rw [HF.out]; rfl, HX.out⟩
      · clear h2
        go_wp2_with fail
        go_ret
        exact ⟨by rw [HF.out]; rfl, HX.out⟩
      · exact absurd rfl h2
  · have HF : Hid (sameT ⟨na, ta, va⟩ ⟨nb, tb, vb⟩ = false) := Lib.hid (sameT_not (fun h => h1 h.1))
    have f1 : (na.toList == nb.toList) = false := by rw [eq_dec]; exact decide_eq_false h1
    clear h1
    go_wp2_with fail
    go_ret
    exact ⟨by rw [HF.out]; rfl, HX.out⟩
set_option maxHeartbeats 4000000 in
theorem rsame_any (a b : Tm) (u v : Value) (w : World) (ha : Txt w u a.vals) (hb : Txt w v b.vals) :
    Calls Try.prog 19 #[tmV a u, tmV b v] w fun e w' => e = .returned (.bool (sameT a b)) ∧ Ext w w' := by
  obtain ⟨na, ta, va⟩ := a
  obtain ⟨nb, tb, vb⟩ := b
  have HA := Lib.hid ha
  have HB := Lib.hid hb
  obtain ⟨A, n, c, rfl, _⟩ := ha
  obtain ⟨B, m, d, rfl, _⟩ := hb
  simp only [tmV]
  go_enter Try.func19, Try.ntmps19
  go_upto_region 1 with fail
  have hb := heap_alloc_new w (.cells #[.string na, .bool ta, .slice A n c] 30 (0, 0))
  have hx1 := Ext.alloc w (.cells #[.string na, .bool ta, .slice A n c] 30)
  have hs1 : (w.alloc (.cells #[.string na, .bool ta, .slice A n c] 30)).heap.size = w.heap.size + 1 := by simp
  generalize w.alloc (.cells #[.string na, .bool ta, .slice A n c] 30) = w1 at hb hx1 hs1 ⊢
  generalize w.heap.size = p at hb hs1 ⊢
  have hb2 := heap_alloc_new w1 (.cells #[.string nb, .bool tb, .slice B m d] 30 (0, 0))
  have hx2 := Ext.alloc w1 (.cells #[.string nb, .bool tb, .slice B m d] 30)
  have hbp := (Cm.of_ext hx2).cells _ _ _ _ hb
  have HX := Lib.hid (hx1.trans hx2)
  clear hx1 hx2 hb
  generalize w1.alloc (.cells #[.string nb, .bool tb, .slice B m d] 30) = w2 at hb2 hbp HX ⊢
  rw [hs1] at hb2
  clear hs1
  generalize p + 1 = q at hb2 ⊢
  obtain ⟨d0, d1, d2⟩ := tm_cells hbp (Ext.refl _)
  obtain ⟨e0, e1, e2⟩ := tm_cells hb2 (Ext.refl _)
  clear hbp hb2
  by_cases h1 : na = nb
  · by_cases h2 : ta = tb
    · have HF : Hid (sameT ⟨na, ta, va⟩ ⟨nb, tb, vb⟩ = sameB va vb) := Lib.hid (by
        unfold sameT sameB
        rw [h1, h2]
        simp)
      subst h1 h2
      cases ta
      all_goals
        go_wp2_with fail
        refine (same_txt (.slice A n c) (.slice B m d) va vb w2 (HA.out.ext HX.out) (HB.out.ext HX.out)).mono ?_
        rintro e _ ⟨rfl, q9, rfl⟩
        go_wp2_with fail
        go_ret
        exact ⟨by rw [HF.out]; rfl, HX.out.trans (Ext.drewN _ _)⟩
    · have HF : Hid (sameT ⟨na, ta, va⟩ ⟨nb, tb, vb⟩ = false) := Lib.hid (sameT_not (fun h => h2 h.2.1))
      subst h1
      cases ta <;> cases tb
      · exact absurd rfl h2
      · clear h2
        go_wp2_with fail
        go_ret
        exact ⟨by rw [HF.out]; rfl, HX.out⟩
      · clear h2
        go_wp2_with fail
        go_ret
        exact ⟨by rw [HF.out]; rfl, HX.out⟩
      · exact absurd rfl h2
  · have HF : Hid (sameT ⟨na, ta, va⟩ ⟨nb, tb, vb⟩ = false) := Lib.hid (sameT_not (fun h => h1 h.1))
    have f1 : (na.toList == nb.toList) = false := by rw [eq_dec]; exact decide_eq_false h1
    clear h1
    go_wp2_with fail
    go_ret
    exact ⟨by rw [HF.out]; rfl, HX.out⟩
theorem plain_any (t : Tm) (u : Value) (w : World) (h : Txt w u t.vals) :
    Calls Try.prog 13 #[tmV t u] w fun e w' => e = .returned (tmV t u) ∧ Ext w w' := by
  obtain ⟨name, nt, vals⟩ := t
  obtain ⟨A, n, c, rfl, _⟩ := h
  simp only [tmV]
  go_enter Try.func13, Try.ntmps13
  go_upto_region 1 with fail
  have hb := heap_alloc_new w (.cells #[.string name, .bool nt, .slice A n c] 24 (0, 0))
  have hx1 := Ext.alloc w (.cells #[.string name, .bool nt, .slice A n c] 24)
  have hs1 : (w.alloc (.cells #[.string name, .bool nt, .slice A n c] 24)).heap.size = w.heap.size + 1 := by simp
  generalize w.alloc (.cells #[.string name, .bool nt, .slice A n c] 24) = w1 at hb hx1 hs1 ⊢
  obtain ⟨p, hp⟩ : ∃ p, p = w.heap.size := ⟨_, rfl⟩
  rw [← hp] at hb hs1
  rw [← hp]
  have hb2 := heap_alloc_new w1 (.cells #[.string ⟨#[]⟩, .bool false, .slice none 0 0] 30 (0, 0))
  have hx2 := Ext.alloc w1 (.cells #[.string ⟨#[]⟩, .bool false, .slice none 0 0] 30)
  have hbp := (Cm.of_ext hx2).cells _ _ _ _ hb
  generalize w1.alloc (.cells #[.string ⟨#[]⟩, .bool false, .slice none 0 0] 30) = w2 at hb2 hx2 hbp ⊢
  rw [hs1] at hb2
  obtain ⟨q, hq⟩ : ∃ q, q = p + 1 := ⟨_, rfl⟩
  rw [← hq] at hb2
  rw [← hq]
  have HX := Lib.hid (hx1.trans hx2)
  have HQW : Hid (w.heap.size ≤ q) := Lib.hid (by omega)
  obtain ⟨d0, d1, d2⟩ := tm_cells hbp (Ext.refl _)
  have e0 := heap_cell hb2 0
  have e1 := heap_cell hb2 1
  have e2 := heap_cell hb2 2
  have f0 := heap_frozen hb2 0
  have f1 := heap_frozen hb2 1
  have f2 := heap_frozen hb2 2
  have hres := set3 (a' := .string name) (b' := .bool nt) (c' := .slice A n c) hb2
  have HRES := Lib.hid hres
  clear hb hx1 hx2 hbp hb2 hq hs1 hp hres
  go_wp2_with fail
  have g0 := heap_cell HRES.out 0
  have g1 := heap_cell HRES.out 1
  have g2 := heap_cell HRES.out 2
  refine bodyPost_ret (v := .agg #[.string name, .bool nt, .slice A n c]) ?_ rfl ⟨rfl, kp3.to_ext HX.out (by simpa using HQW.out)⟩
  simp [results, Try.results13, go_sem, g0, g1, g2]
def LightE (t : Tm) (e : Ending) : Prop := ∃ b, e = .returned (.bool b) ∧ (b = true → t.vals.length ≤ 30 ∧ t.name.size ≤ 100 ∧ ∀ v ∈ t.vals, v.size ≤ 100)
set_option maxHeartbeats 4000000 in
theorem tlight_any (t : Tm) (u : Value) (w : World) (h : Txt w u t.vals) :
    Calls Try.prog 9 #[tmV t u] w fun e w' => LightE t e ∧ Ext w w' := by
  obtain ⟨name, nt, vals⟩ := t
  obtain ⟨A, n, c, rfl, hn, hnc, hc, hr⟩ := h
  dsimp only at hn hr
  have HR := Lib.hid hr
  have HN := Lib.hid hn
  clear hr hn
  simp only [tmV]
  go_enter Try.func9, Try.ntmps9
  go_upto_region 1 with fail
  have hb := heap_alloc_new w (.cells #[.string name, .bool nt, .slice A n c] 24 (0, 0))
  have hx1 := Ext.alloc w (.cells #[.string name, .bool nt, .slice A n c] 24)
  generalize w.alloc (.cells #[.string name, .bool nt, .slice A n c] 24) = w1 at hb hx1 ⊢
  generalize w.heap.size = p at hb ⊢
  have HX := Lib.hid hx1
  obtain ⟨d0, d1, d2⟩ := tm_cells hb (Ext.refl _)
  clear hb hx1
  by_cases h30 : n ≤ 30
  · have h30I : decide ((30 : Int) < (n : Int)) = false := decide_eq_false (by omega)
    have h30J : decide (30 < n) = false := decide_eq_false (by omega)
    by_cases h100 : name.size ≤ 100
    · have h100I : decide ((100 : Int) < (name.size : Int)) = false := decide_eq_false (by omega)
      have h100J : decide (100 < name.size) = false := decide_eq_false (by omega)
      go_wp2_with fail
      go_loop [3] (fun i => ∃ k : Nat, k ≤ n ∧ i = .int .i64 (k : Int) ∧ Hid (∀ v ∈ vals.take k, v.size ≤ 100)) (fun i => n - (intOf i).toNat)
      case atStart => exact ⟨0, by omega, rfl, Lib.hid (by simp)⟩
      case round =>
        obtain ⟨k, hk, rfl, HA⟩ := hrel
        by_cases hkn : k < n
        · have hkI : (k : Int) < (n : Int) := by omega
          have hkJ : (0 : Int) ≤ (k : Int) := by omega
          obtain ⟨x, hx⟩ : ∃ x, vals[k]? = some x := ⟨_, List.getElem?_eq_getElem (by have := HN.out; omega)⟩
          obtain ⟨ad, rfl, c0⟩ := txt_cell (HR.out.ext HX.out) hx
          by_cases hxs : x.size ≤ 100
          · have hxI : decide ((100 : Int) < (x.size : Int)) = false := decide_eq_false (by omega)
            have hxJ : decide (100 < x.size) = false := decide_eq_false (by omega)
            have HA2 := Lib.hid (none_take HA.out hx hxs)
            clear hx hxs
            go_wp2_with fail
            go_round
            case rel => exact ⟨k + 1, by omega, by go_num, HA2⟩
            case measure => simp [intOf]; omega
          · have hxI : (100 : Int) < (x.size : Int) := by omega
            clear hx hxs
            go_wp2_with fail
            go_ret
            exact ⟨⟨false, rfl, by simp⟩, HX.out⟩
        · obtain rfl : k = n := by omega
          have HF : Hid (∀ v ∈ vals, v.size ≤ 100) := Lib.hid (by have := HA.out; rwa [List.take_of_length_le (by rw [HN.out]; exact Nat.le_refl _)] at this)
          go_wp2_with fail
          go_ret
          exact ⟨⟨true, rfl, fun _ => ⟨by rw [HN.out]; exact h30, h100, HF.out⟩⟩, HX.out⟩
    · have h100I : (100 : Int) < (name.size : Int) := by omega
      clear h100
      go_wp2_with fail
      go_ret
      exact ⟨⟨false, rfl, by simp⟩, HX.out⟩
  · have h30I : (30 : Int) < (n : Int) := by omega
    clear h30
    go_wp2_with fail
    go_ret
    exact ⟨⟨false, rfl, by simp⟩, HX.out⟩
end Go.Proofs.Ytccjbmmhdbainaa
