/- IndexFinds walked. -/
import Derived.Test.YtebcjpapmjebgaaIdxP
import Derived.Deep.CutRange
namespace Go.Proofs.Ytebcjpapmjebgaa
open Go.RowKit Sets
set_option linter.unusedVariables false
set_option linter.unusedSectionVars false
set_option linter.unusedSimpArgs false

theorem find_has {M : Mod} (hM : GoodM M) {p : Ent} (hp : p ∈ M) (y : Lab) : hasB (findM M y) p.1 = hasL p.2 y := by
  rw [Bool.eq_iff_iff, hasB_iff, hasL_iff]
  unfold findM
  rw [mem_keysM]
  constructor
  · rintro ⟨q, hq, e⟩
    obtain ⟨hq1, hq2⟩ := List.mem_filter.1 hq
    have := sd_inj hM.sd hq1 hp e
    subst this
    exact hasL_iff.1 hq2
  · intro h
    exact ⟨p, List.mem_filter.2 ⟨hp, hasL_iff.2 h⟩, rfl⟩
theorem with_has {M : Mod} (hM : GoodM M) {p : Ent} (hp : p ∈ M) (n : ByteArray) : hasB (withM M n) p.1 = hasB (namesI p.2) n := by
  rw [Bool.eq_iff_iff, hasB_iff]
  unfold withM
  rw [mem_keysM]
  constructor
  · rintro ⟨q, hq, e⟩
    obtain ⟨hq1, hq2⟩ := List.mem_filter.1 hq
    have := sd_inj hM.sd hq1 hp e
    subst this
    exact hq2
  · intro h
    exact ⟨p, List.mem_filter.2 ⟨hp, h⟩, rfl⟩
theorem find_le (M : Mod) (y : Lab) : (findM M y).length ≤ (withM M y.1).length := by
  unfold findM withM keysM
  rw [List.length_map, List.length_map, ← List.countP_eq_length_filter, ← List.countP_eq_length_filter]
  refine List.countP_mono_left fun p _ h => ?_
  rw [hasL_iff] at h
  rw [hasB_iff]
  exact List.mem_map.2 ⟨y, h, rfl⟩
theorem rise_sd {xs : List ByteArray} (h : Sd xs) : rise xs = true := by
  exact (rise_iff xs).2 h
theorem rright_yes (v : Value) (xs : List ByteArray) (w : World) (h : Txt w v xs) (hs : Sd xs) (hf : Fit xs) :
    Calls Try.prog 34 #[v] w fun e w' => e = .returned (.bool true) ∧ Ext w w' := by
  refine (rright_txt v xs w h hf).mono ?_
  rintro e _ ⟨rfl, q, rfl⟩
  exact ⟨by rw [rise_sd hs], Ext.drewN _ _⟩
theorem hasL_snoc {l : List Lab} {k : Nat} {y z : Lab} (h : l[k]? = some y) : hasL (l.take (k + 1)) z = (hasL (l.take k) z || decide (y = z)) := by
  rw [take_snoc h]
  unfold hasL
  rw [List.any_append]
  simp
theorem hasN_snoc {l : List Lab} {k : Nat} {y : Lab} {n : ByteArray} (h : l[k]? = some y) : hasB (namesI (l.take (k + 1))) n = (hasB (namesI (l.take k)) n || decide (y.1 = n)) := by
  rw [Bool.eq_iff_iff, hasB_iff, names_snoc h, Bool.or_eq_true, hasB_iff, decide_eq_true_eq]
  constructor
  · rintro (h | rfl)
    · exact .inl h
    · exact .inr rfl
  · rintro (h | rfl)
    · exact .inl h
    · exact .inr rfl
set_option maxRecDepth 100000 in
set_option maxHeartbeats 8000000 in
theorem indexFinds_any (v : Value) (xs : List IOp) (y : Lab) (w : World) (h : Row opC w v xs) (hok : ∀ o ∈ xs, IOpOk w o) (hy : okL y) :
    Calls Try.prog 4 #[v, labV y] w fun e w' => e = .returned (.bool true) ∧ Ext w w' := by
  have HROW := Lib.hid h
  have HOK1 := Lib.hid hok
  have HY := Lib.hid hy
  obtain ⟨A1, n1, c1, rfl, _⟩ := h
  clear hok hy
  obtain ⟨y1, y2⟩ := y
  simp only [labV]
  go_enter Try.func4, Try.ntmps4
  go_wp2_with fail
  have hb := heap_alloc_new w (.cells #[.string y1, .string y2] 24 (0, 0))
  have hx1 := Ext.alloc w (.cells #[.string y1, .string y2] 24)
  generalize w.alloc (.cells #[.string y1, .string y2] 24) = w1 at hb hx1 ⊢
  obtain ⟨p, hp⟩ : ∃ p, p = w.heap.size := ⟨_, rfl⟩
  rw [← hp] at hb
  rw [← hp]
  clear hp
  refine (build_any _ xs w1 (Cm.row (Cm.of_ext hx1) HROW.out) (fun o ho => (HOK1.out o ho).ext hx1)).mono ?_
  rintro e v1 ⟨x, L, M, rfl, hg, hml⟩
  have HG : Hid (Gx w v1 x L M) := Lib.hid ⟨hg.at_.base hx1.size, hx1.trans hg.ext⟩
  have HB := Lib.hid ((Cm.of_ext hg.ext).cells _ _ _ _ hb)
  have HM := Lib.hid hg.at_.good
  clear hg hb HROW HOK1 hx1
  have hb0 := heap_cell HB.out 0
  have hb1 := heap_cell HB.out 1
  by_cases hl1 : y1.size ≤ 100
  · have g1 : decide ((100 : Int) < (y1.size : Int)) = false := decide_eq_false (by omega)
    clear hl1
    by_cases hl2 : y2.size ≤ 100
    · have g2 : decide ((100 : Int) < (y2.size : Int)) = false := decide_eq_false (by omega)
      clear hl2
      go_wp2_with fail
      refine (keys_list HG.out.at_ (by omega)).mono ?_
      rintro e v2 ⟨uk, rfl, hk, hx⟩
      have HG2 := Lib.hid (HG.out.later hx)
      have HB2 := Lib.hid ((Cm.of_ext hx).cells _ _ _ _ HB.out)
      have HK2 := Lib.hid hk
      clear hb0 hb1 HG HB hk hx
      have hb0 := heap_cell HB2.out 0
      have hb1 := heap_cell HB2.out 1
      go_wp2_with fail
      refine (find_list HG2.out.at_ (y1, y2) HY.out (by omega)).mono ?_
      rintro e v3 ⟨uf, rfl, hf, hx⟩
      have HG3 := Lib.hid (HG2.out.later hx)
      have HB3 := Lib.hid ((Cm.of_ext hx).cells _ _ _ _ HB2.out)
      have HK3 := Lib.hid (HK2.out.ext hx)
      have HF3 := Lib.hid hf
      clear hb0 hb1 HG2 HB2 hf hx HK2
      have hb0 := heap_cell HB3.out 0
      go_wp2_with fail
      refine (with_list HG3.out.at_ y1 HY.out.1 (by omega)).mono ?_
      rintro e v4 ⟨uw, rfl, hw, hx⟩
      have HG4 := Lib.hid (HG3.out.later hx)
      have HB4 := Lib.hid ((Cm.of_ext hx).cells _ _ _ _ HB3.out)
      have HK4 := Lib.hid (HK3.out.ext hx)
      have HF4 := Lib.hid (HF3.out.ext hx)
      have HW4 := Lib.hid hw
      clear hb0 HG3 HB3 HF3 hw hx HK3
      have HSK : Hid (Sd (keysM M) ∧ Fit (keysM M)) := Lib.hid ⟨HM.out.sd, fun s hs => by
        obtain ⟨q, hq, rfl⟩ := mem_keysM.1 hs
        exact key_ok (HM.out.ent q hq).1⟩
      have HSF : Hid (Sd (findM M (y1, y2)) ∧ Fit (findM M (y1, y2))) := Lib.hid ⟨sd_filter HM.out.sd _, fun s hs => by
        obtain ⟨q, hq, rfl⟩ := mem_keysM.1 hs
        exact key_ok (HM.out.ent q (List.mem_filter.1 hq).1).1⟩
      have HSW : Hid (Sd (withM M y1) ∧ Fit (withM M y1)) := Lib.hid ⟨sd_filter HM.out.sd _, fun s hs => by
        obtain ⟨q, hq, rfl⟩ := mem_keysM.1 hs
        exact key_ok (HM.out.ent q (List.mem_filter.1 hq).1).1⟩
      go_wp2_with fail
      refine (rright_yes uk _ v4 HK4.out HSK.out.1 HSK.out.2).mono ?_
      rintro e w4 ⟨rfl, hw4⟩
      go_wp2_with fail
      refine (rright_yes uf _ w4 (HF4.out.ext hw4) HSF.out.1 HSF.out.2).mono ?_
      rintro e w5 ⟨rfl, hw5⟩
      go_wp2_with fail
      refine (rright_yes uw _ w5 (HW4.out.ext (hw4.trans hw5)) HSW.out.1 HSW.out.2).mono ?_
      rintro e v6 ⟨rfl, hw6⟩
      have hx6 := (hw4.trans hw5).trans hw6
      clear hw4 hw5 hw6
      have HG6 := Lib.hid (HG4.out.later hx6)
      have HB6 := Lib.hid ((Cm.of_ext hx6).cells _ _ _ _ HB4.out)
      have HK6 := Lib.hid (HK4.out.ext hx6)
      have HF6 := Lib.hid (HF4.out.ext hx6)
      have HW6 := Lib.hid (HW4.out.ext hx6)
      clear hx6 HG4 HB4 HK4 HF4 HW4 HSK HSF HSW
      obtain ⟨A2, m, c2, rfl, hn2, hnc2, hcm2, hr2⟩ := HK6.out
      obtain rfl : m = M.length := by rw [← hn2]; exact len_keys
      obtain ⟨A3, nf, cf, rfl, hnf, _, _, _⟩ := HF6.out
      obtain ⟨A4, nw, cw, rfl, hnw, _, _, _⟩ := HW6.out
      have HR2 := Lib.hid hr2
      have hle1 : nf ≤ nw := by rw [← hnf, ← hnw]; exact find_le M (y1, y2)
      have hle2 : nw ≤ M.length := by rw [← hnw]; exact len_with y1
      clear hr2 hn2 hnf hnw
      go_wp2_with fail
      go_loopw [9] (fun i wr => ∃ (k : Nat), k ≤ M.length ∧ i = .int .i64 (k : Int) ∧ Ext v6 wr) (fun i _ => M.length - (intOf i).toNat)
      case atStart => exact ⟨0, by omega, rfl, Ext.refl _⟩
      case round =>
        obtain ⟨k, hk, rfl, hx⟩ := hrel
        have HX := Lib.hid hx
        clear hx
        by_cases hkn : k < M.length
        · have hkI : (k : Int) < (M.length : Int) := by omega
          obtain ⟨q, hq⟩ : ∃ p, M[k]? = some p := ⟨_, List.getElem?_eq_getElem hkn⟩
          have HQ := Lib.hid (List.mem_of_getElem? hq)
          obtain ⟨ad, rfl, k0⟩ := txt_cell (HR2.out.ext HX.out) (keys_get hq)
          have HLK := Lib.hid (lk_at HM.out hq)
          have HEN := Lib.hid (HM.out.ent q HQ.out)
          have HOL := Lib.hid (fun y (hy : y ∈ q.2) => ent_okL HM.out HQ.out hy)
          have HFH := Lib.hid (fun y => find_has HM.out HQ.out y)
          have HWH := Lib.hid (fun n => with_has HM.out HQ.out n)
          have HIS : Hid ((lkM M q.1).isSome = true) := Lib.hid (by rw [lk_is]; exact List.mem_map.2 ⟨q, HQ.out, rfl⟩)
          obtain ⟨q1, q2⟩ := q
          dsimp only at k0
          clear hq
          go_wp2_with fail
          refine (labels_list (HG6.out.at_.ext HX.out) q1 (key_ok HEN.out.1)).mono ?_
          rintro e v7 ⟨_, rfl, hrow, hx⟩
          rw [HLK.out] at hrow
          obtain ⟨A7, m7, c7, rfl, hn7, hnc7, hcm7, hr7⟩ := hrow
          have HR7 := Lib.hid hr7
          have HN7 := Lib.hid hn7
          have hm8 : m7 ≤ 8 := by
            have := (right_ok HEN.out.2.1).2
            omega
          have HX7 := Lib.hid (HX.out.trans hx)
          have k1 := hx.cell k0
          clear hr7 hn7 hx HX k0
          go_wp2_with fail
          go_loopw [11, 12, 13] (fun s t i wq => ∃ (j : Nat), j ≤ m7 ∧ i = .int .i64 (j : Int) ∧ s = .bool (hasL (q2.take j) (y1, y2)) ∧ t = .bool (hasB (namesI (q2.take j)) y1) ∧ Ext v7 wq) (fun _ _ i _ => m7 - (intOf i).toNat)
          case atStart => exact ⟨0, by omega, rfl, rfl, rfl, Ext.refl _⟩
          case round =>
            obtain ⟨j, hj, rfl, rfl, rfl, hx⟩ := hrel
            have HX8 := Lib.hid hx
            clear hx
            by_cases hjn : j < m7
            · have hjI : (j : Int) < (m7 : Int) := by omega
              obtain ⟨z, hz⟩ : ∃ y, q2[j]? = some y := ⟨_, List.getElem?_eq_getElem (by have := HN7.out; omega)⟩
              obtain ⟨ad7, rfl⟩ : ∃ ad, A7 = some ad := row_some HR7.out labC_len (by decide) (by have := HN7.out; omega)
              obtain ⟨r0, r1⟩ := lab_cells (HR7.out.ext HX8.out) hz
              have k2 := HX8.out.cell k1
              have HOZ := Lib.hid (HOL.out z (List.mem_of_getElem? hz))
              have HL1 := Lib.hid (hasL_snoc (z := (y1, y2)) hz)
              have HN1 := Lib.hid (hasN_snoc (n := y1) hz)
              have HF1 : Hid (hasB (findM M z) q1 = true) := Lib.hid (by rw [HFH.out]; exact hasL_iff.2 (List.mem_of_getElem? hz))
              have HW1 : Hid (hasB (withM M z.1) q1 = true) := Lib.hid (by rw [HWH.out, hasB_iff]; exact List.mem_map.2 ⟨z, List.mem_of_getElem? hz, rfl⟩)
              have HGq := Lib.hid (HG6.out.later (HX7.out.trans HX8.out))
              have HBq := Lib.hid ((Cm.of_ext (HX7.out.trans HX8.out)).cells _ _ _ _ HB6.out)
              generalize hasL (q2.take j) (y1, y2) = fl at HL1 ⊢
              generalize hasB (namesI (q2.take j)) y1 = fn at HN1 ⊢
              obtain ⟨z1, z2⟩ := z
              dsimp only at r0 r1 HW1
              clear hz
              have hs0 : wr.cell? (ad7.add (j * 2)) = some (.string z1) ∧ wr.cell? ⟨(ad7.add (j * 2)).block, (ad7.add (j * 2)).off + 1, none⟩ = some (.string z2) ∧ wr.cell? (ad.add k) = some (.string q1) := ⟨r0, r1, k2⟩
              go_wp2_with fail
              go_region_held3 (fun wz => wz.cell? (ad7.add (j * 2)) = some (.string z1) ∧ wz.cell? ⟨(ad7.add (j * 2)).block, (ad7.add (j * 2)).off + 1, none⟩ = some (.string z2) ∧ wz.cell? (ad.add k) = some (.string q1)) (first | assumption | exact hs5 | exact hs6) (first
                | (go_at_call 26
                   refine (find_list (HGq.out.at_.ext (Ext.drew wr)) (z1, z2) HOZ.out (by omega)).mono ?_
                   rintro e v8 ⟨u5, rfl, ht5, hx⟩
                   have HX9 := Lib.hid ((Ext.drew wr).trans hx)
                   have HT5 := Lib.hid ht5
                   have hs5 := And.intro (HX9.out.cell hs0.1) (And.intro (HX9.out.cell hs0.2.1) (HX9.out.cell hs0.2.2))
                   clear hx ht5)
                | (go_at_call_of 35 u5
                   refine (rhas_txt u5 _ q1 v8 HT5.out).mono ?_
                   rintro e _ ⟨rfl, rfl⟩
                   rw [HF1.out])
                | (go_at_call 28
                   refine (with_list (HGq.out.at_.ext HX9.out) z1 HOZ.out.1 (by omega)).mono ?_
                   rintro e v9 ⟨u6, rfl, ht6, hx⟩
                   have HX10 := Lib.hid (HX9.out.trans hx)
                   have HT6 := Lib.hid ht6
                   have hs6 := And.intro (HX10.out.cell hs0.1) (And.intro (HX10.out.cell hs0.2.1) (HX10.out.cell hs0.2.2))
                   clear hx ht6)
                | (go_at_call_of 35 u6
                   refine (rhas_txt u6 _ q1 v9 HT6.out).mono ?_
                   rintro e _ ⟨rfl, rfl⟩
                   rw [HW1.out]))
              clear hs0 hs5 HT5 HT6 HF1 HW1 HX9 HGq k1 k2
              have HX11 := Lib.hid (HX8.out.trans HX10.out)
              have hb0 := heap_cell ((Cm.of_ext HX10.out).cells _ _ _ _ HBq.out) 0
              have hb1 := heap_cell ((Cm.of_ext HX10.out).cells _ _ _ _ HBq.out) 1
              obtain ⟨r0, r1, k2⟩ := hs6
              by_cases e1 : y1 = z1
              · have HN2 : Hid (hasB (namesI (q2.take (j + 1))) y1 = true) := Lib.hid (by rw [HN1.out, decide_eq_true e1.symm, Bool.or_true])
                by_cases e2 : y2 = z2
                · have HL2 : Hid (hasL (q2.take (j + 1)) (y1, y2) = true) := Lib.hid (by rw [HL1.out, decide_eq_true (by rw [e1, e2]), Bool.or_true])
                  clear HL1 HN1
                  subst e1 e2
                  cases fl <;> cases fn
                  all_goals
                    go_wp2_with fail
                    go_quiet (fail)
                    go_wp2_with fail
                    go_quiet (fail)
                    go_wp2_with fail
                    go_roundw
                    case rel => exact ⟨j + 1, by omega, by go_num, by rw [HL2.out], by rw [HN2.out], HX11.out.trans (Ext.drewN _ _)⟩
                    case measure => simp [intOf]; omega
                · have HL2 : Hid (hasL (q2.take (j + 1)) (y1, y2) = fl) := Lib.hid (by rw [HL1.out, decide_eq_false (fun e => e2 (by injection e with _ e; exact e.symm)), Bool.or_false])
                  have e2' : (z2.toList == y2.toList) = false := by rw [eq_dec]; exact decide_eq_false (fun e => e2 e.symm)
                  clear HL1 HN1 e2
                  subst e1
                  cases fl <;> cases fn
                  all_goals
                    go_wp2_with fail
                    go_quiet (fail)
                    go_wp2_with fail
                    go_quiet (fail)
                    go_wp2_with fail
                    go_roundw
                    case rel => exact ⟨j + 1, by omega, by go_num, by rw [HL2.out], by rw [HN2.out], HX11.out.trans (Ext.drewN _ _)⟩
                    case measure => simp [intOf]; omega
              · have HL2 : Hid (hasL (q2.take (j + 1)) (y1, y2) = fl) := Lib.hid (by rw [HL1.out, decide_eq_false (fun e => e1 (by injection e with e _; exact e.symm)), Bool.or_false])
                have HN2 : Hid (hasB (namesI (q2.take (j + 1))) y1 = fn) := Lib.hid (by rw [HN1.out, decide_eq_false (fun e => e1 e.symm), Bool.or_false])
                have e1' : (z1.toList == y1.toList) = false := by rw [eq_dec]; exact decide_eq_false (fun e => e1 e.symm)
                clear HL1 HN1 e1
                cases fl <;> cases fn
                all_goals
                  go_wp2_with fail
                  go_quiet (fail)
                  go_wp2_with fail
                  go_quiet (fail)
                  go_wp2_with fail
                  go_roundw
                  case rel => exact ⟨j + 1, by omega, by go_num, by rw [HL2.out], by rw [HN2.out], HX11.out.trans (Ext.drewN _ _)⟩
                  case measure => simp [intOf]; omega
            · obtain rfl : j = m7 := by omega
              have ef : hasB (findM M (y1, y2)) q1 = hasL (q2.take j) (y1, y2) := by rw [HFH.out, List.take_of_length_le (by rw [HN7.out]; exact Nat.le_refl _)]
              have en : hasB (withM M y1) q1 = hasB (namesI (q2.take j)) y1 := by rw [HWH.out, List.take_of_length_le (by rw [HN7.out]; exact Nat.le_refl _)]
              generalize hasL (q2.take j) (y1, y2) = fl at ef ⊢
              generalize hasB (namesI (q2.take j)) y1 = fn at en ⊢
              have EF := Lib.hid ef
              have EN := Lib.hid en
              have k2 := HX8.out.cell k1
              have HX9 := Lib.hid (HX7.out.trans HX8.out)
              have HF9 := Lib.hid (HF6.out.ext HX9.out)
              have HW9 := Lib.hid (HW6.out.ext HX9.out)
              have HG9 := Lib.hid (HG6.out.at_.ext HX9.out)
              clear ef en HX7 HX8 k1 HR7 HN7 HLK HOL HFH HWH
              cases fl <;> cases fn
              all_goals
                go_wp2_with fail
                refine (rhas_txt _ _ q1 _ HF9.out).mono ?_
                rintro e _ ⟨rfl, rfl⟩
                rw [EF.out]
                go_wp2_with fail
                refine (rhas_txt _ _ q1 _ HW9.out).mono ?_
                rintro e _ ⟨rfl, rfl⟩
                rw [EN.out]
                go_wp2_with fail
                refine (has_list HG9.out q1 (key_ok HEN.out.1)).mono ?_
                rintro e _ ⟨rfl, rfl⟩
                rw [HIS.out]
                go_wp2_with fail
                go_roundw
                case rel => exact ⟨k + 1, by omega, by go_num, HX9.out⟩
                case measure => simp [intOf]; omega
        · obtain rfl : k = M.length := by omega
          have hI1 : decide ((nf : Int) ≤ (nw : Int)) = true := decide_eq_true (by omega)
          have hI2 : decide ((nw : Int) ≤ (M.length : Int)) = true := decide_eq_true (by omega)
          go_wp2_with fail
          refine (known_any _).mono ?_
          rintro e v8 ⟨rfl, hx8⟩
          go_wp2_with fail
          go_ret
          exact ⟨rfl, (HG6.out.ext.trans HX.out).trans hx8⟩
    · have g2 : decide ((100 : Int) < (y2.size : Int)) = true := decide_eq_true (by omega)
      go_wp2_with fail
      refine (known_any _).mono ?_
      rintro e v3 ⟨rfl, hx3⟩
      go_wp2_with fail
      go_ret
      exact ⟨rfl, HG.out.ext.trans hx3⟩
  · have g1 : decide ((100 : Int) < (y1.size : Int)) = true := decide_eq_true (by omega)
    go_wp2_with fail
    refine (known_any _).mono ?_
    rintro e v3 ⟨rfl, hx3⟩
    go_wp2_with fail
    go_ret
    exact ⟨rfl, HG.out.ext.trans hx3⟩
end Go.Proofs.Ytebcjpapmjebgaa
