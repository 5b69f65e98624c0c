/- FilterNots walked. -/
import Derived.Test.YtccjbmmhdbainaaFltB
import Derived.Test.YtccjbmmhdbainaaFltX
import Derived.Deep.RegionHeld3
namespace Go.Proofs.Ytccjbmmhdbainaa
open Go.RowKit Sets
set_option linter.unusedVariables false
set_option linter.unusedSectionVars false
set_option linter.unusedSimpArgs false
set_option maxRecDepth 100000

theorem tms_two (w : World) (tt : TypeId) (A B : Option Addr) (n c m d : Nat) (t u : Tm) (h : Txt w (.slice A n c) t.vals) (k : Txt w (.slice B m d) u.vals) : Tms (w.alloc (.cells #[.string t.name, .bool t.not, .slice A n c, .string u.name, .bool u.not, .slice B m d] tt)) (.slice (some ⟨w.heap.size, 0, none⟩) 2 2) [t, u] := by
  have hx := Ext.alloc w (.cells #[.string t.name, .bool t.not, .slice A n c, .string u.name, .bool u.not, .slice B m d] tt)
  refine ⟨[⟨t.name, t.not, A, n, c⟩, ⟨u.name, u.not, B, m, d⟩], ⟨_, 2, 2, rfl, rfl, Nat.le_refl _, by simp [maxLen], by exact ap_new w _ tt _ rfl⟩, ?_⟩
  exact TmsT.app (es := [⟨t.name, t.not, A, n, c⟩]) (ts := [t]) (TmsT.one ⟨rfl, rfl, h.ext hx⟩) (TmsT.one ⟨rfl, rfl, k.ext hx⟩)
set_option maxHeartbeats 20000000 in
theorem filterNots_any (u0 u1 u2 : Value) (xs : List IOp) (a b : Tm) (w : World) (h1 : Row opC w u0 xs) (hok : ∀ o ∈ xs, IOpOk w o) (ha : Txt w u1 a.vals) (hao : TmOk a) (hb : Txt w u2 b.vals) (hbo : TmOk b) :
    Calls Try.prog 7 #[u0, tmV a u1, tmV b u2] w fun e w' => e = .returned (.bool true) ∧ Ext w w' := by
  obtain ⟨na, ta, va⟩ := a
  obtain ⟨nb, tb, vb⟩ := b
  have HA := Lib.hid ha
  have HB := Lib.hid hb
  have HAO := Lib.hid hao
  have HBO := Lib.hid hbo
  have HH1 := Lib.hid h1
  have HOK := Lib.hid hok
  obtain ⟨A, n, c, rfl, _⟩ := ha
  obtain ⟨B, m, d, rfl, _⟩ := hb
  clear hao hbo h1 hok
  simp only [tmV]
  go_enter Try.func7, Try.ntmps7
  go_upto_region 1 with fail
  have hb := heap_alloc_new w (.cells #[.string na, .bool ta, .slice A n c] 24 (0, 0))
  have hx1 := Ext.alloc w (.cells #[.string na, .bool ta, .slice A n c] 24)
  have hs1 : (w.alloc (.cells #[.string na, .bool ta, .slice A n c] 24)).heap.size = w.heap.size + 1 := by simp
  generalize w.alloc (.cells #[.string na, .bool ta, .slice A n c] 24) = w1 at hb hx1 hs1 ⊢
  generalize w.heap.size = p at hb hs1 ⊢
  have hb2 := heap_alloc_new w1 (.cells #[.string nb, .bool tb, .slice B m d] 24 (0, 0))
  have hx2 := Ext.alloc w1 (.cells #[.string nb, .bool tb, .slice B m d] 24)
  have hbp := (Cm.of_ext hx2).cells _ _ _ _ hb
  have HX := Lib.hid (hx1.trans hx2)
  clear hx1 hx2 hb
  generalize w1.alloc (.cells #[.string nb, .bool tb, .slice B m d] 24) = w2 at hb2 hbp HX ⊢
  rw [hs1] at hb2
  clear hs1
  generalize p + 1 = q at hb2 ⊢
  have HP := Lib.hid hbp
  have HQ := Lib.hid hb2
  clear hbp hb2
  go_wp2_with fail
  refine (fbuild_any u0 xs w2 (HH1.out.ext HX.out) (fun o ho => (HOK.out o ho).ext HX.out)).mono ?_
  rintro e w3 ⟨x, L, r, M, rfl, hpx, hml⟩
  have HPX := Lib.hid hpx
  have HML := Lib.hid hml
  have HX3 := Lib.hid (hpx.gx.ext)
  have HGM := Lib.hid hpx.gx.at_.good
  clear hpx hml
  obtain ⟨d0, d1, d2⟩ := tm_cells HP.out HX3.out
  go_wp2_with fail
  refine (tlight_any ⟨na, ta, va⟩ (.slice A n c) w3 (HA.out.ext (HX.out.trans HX3.out))).mono ?_
  rintro e w4 ⟨⟨ba, rfl, hba⟩, hx⟩
  have HX4 := Lib.hid (HX3.out.trans hx)
  have HP4 := Lib.hid (HPX.out.later hx)
  clear hx d0 d1 d2
  cases ba with
  | false =>
    clear hba
    go_wp2_with fail
    refine (known_any _).mono ?_
    rintro e v9 ⟨rfl, hx9⟩
    go_wp2_with fail
    go_ret
    exact ⟨rfl, (HX.out.trans HX4.out).trans hx9⟩
  | true =>
    have HBA := Lib.hid (hba rfl)
    clear hba
    obtain ⟨d0, d1, d2⟩ := tm_cells HQ.out HX4.out
    go_wp2_with fail
    refine (tlight_any ⟨nb, tb, vb⟩ (.slice B m d) w4 (HB.out.ext (HX.out.trans HX4.out))).mono ?_
    rintro e w5 ⟨⟨bb, rfl, hbb⟩, hx⟩
    have HX5 := Lib.hid (HX4.out.trans hx)
    have HP5 := Lib.hid (HP4.out.later hx)
    clear hx d0 d1 d2
    cases bb with
    | false =>
      clear hbb
      go_wp2_with fail
      refine (known_any _).mono ?_
      rintro e v9 ⟨rfl, hx9⟩
      go_wp2_with fail
      go_ret
      exact ⟨rfl, (HX.out.trans HX5.out).trans hx9⟩
    | true =>
      have HBB := Lib.hid (hbb rfl)
      clear hbb
      obtain ⟨d0, d1, d2⟩ := tm_cells HP.out HX5.out
      go_upto_region 5 with fail
      have hbn := heap_alloc_new w5 (.cells #[.string na, .bool ta, .slice A n c] 24 (0, 0))
      have hxn := Ext.alloc w5 (.cells #[.string na, .bool ta, .slice A n c] 24)
      generalize w5.alloc (.cells #[.string na, .bool ta, .slice A n c] 24) = v1 at hbn hxn ⊢
      generalize hse : w5.heap.size = s at hbn ⊢
      have HSE : Hid (∀ k ∈ [s], w5.heap.size ≤ k) := Lib.hid (by simp [hse])
      have f1 := heap_frozen hbn 1
      clear d0 d1 d2 hse
      obtain ⟨d0, d1, d2⟩ := tm_cells HP.out (HX5.out.trans hxn)
      obtain ⟨e0, e1, e2⟩ := tm_cells hbn (Ext.refl _)
      go_upto_region 6 with fail
      clear e0 e1 e2
      have hbs := heap_setCell_same v1 s 1 _ 24 (.bool (!ta)) hbn
      have hxs : Ext w5 (v1.setCell ⟨s, 1, none⟩ (.bool (!ta))) := (Kp.store (L := [s]) s 1 (.bool (!ta)) (by simp)).to_ext hxn HSE.out
      have HMN : Hid (∀ l, matchT ⟨na, !ta, va⟩ l = !matchT ⟨na, ta, va⟩ l) := Lib.hid (fun l => match_not ⟨na, ta, va⟩ l)
      have HFB : Hid ((foundBy M [⟨na, ta, va⟩]).length + (foundBy M [⟨na, !ta, va⟩]).length = (keysM M).length) := Lib.hid (found_both M ⟨na, ta, va⟩)
      have HFO : Hid (norm (foundBy M [⟨na, ta, va⟩] ++ foundBy M [⟨na, !ta, va⟩]) = keysM M) := Lib.hid (found_or HGM.out ⟨na, ta, va⟩)
      generalize v1.setCell ⟨s, 1, none⟩ (.bool (!ta)) = v2 at hbs hxs ⊢
      generalize (!ta) = tn at hbs HMN HFB HFO ⊢
      have HS2 : Hid (v2.heap[s]? = some (.cells #[.string na, .bool tn, .slice A n c] 24)) := Lib.hid hbs
      have HX6 := Lib.hid (HX5.out.trans hxs)
      have HI6 := Lib.hid (HP5.out.gx.at_.ext hxs)
      clear hbn hxn hbs hxs f1 d0 d1 d2 HP5 HP4 HPX HX5 HX4 HX3 HSE
      go_wp2_with fail
      refine (keys_list HI6.out (by have := HML.out; omega)).mono ?_
      rintro e v3 ⟨kv, rfl, hkv, hx⟩
      have HKV := Lib.hid hkv
      obtain ⟨KA, kn, kc, rfl, hkn, hknc, hkc, hkr⟩ := hkv
      have HKN := Lib.hid hkn
      have HKR := Lib.hid hkr
      have HX3 := Lib.hid hx
      have HX7 := Lib.hid (HX6.out.trans hx)
      clear hx hkn hkr
      go_wp2_with fail
      go_loopw [11] (fun iv wr => ∃ k : Nat, k ≤ kn ∧ iv = .int .i64 (k : Int) ∧ Ext v3 wr) (fun iv _ => kn - (intOf iv).toNat)
      case atStart => exact ⟨0, by omega, rfl, Ext.refl _⟩
      case round =>
        obtain ⟨k, hk, rfl, hx⟩ := hrel
        have HXR := Lib.hid hx
        have HXP := Lib.hid (HX7.out.trans hx)
        have HXS := Lib.hid (HX3.out.trans hx)
        by_cases hkl : k < kn
        · have hkI : (k : Int) < (kn : Int) := by omega
          have hkJ : (0 : Int) ≤ (k : Int) := by omega
          obtain ⟨key, hky⟩ : ∃ y, (keysM M)[k]? = some y := ⟨_, List.getElem?_eq_getElem (by rw [HKN.out]; exact hkl)⟩
          obtain ⟨ad, rfl, hcell⟩ := (HKR.out.ext hx).some_ (by rw [List.length_map, HKN.out]; omega)
          have c0 := hcell k (.string key) (by rw [List.getElem?_map, hky]; rfl)
          have HKO : Hid (okS key) := Lib.hid (keys_fit HGM.out key (List.mem_of_getElem? hky))
          obtain ⟨l, hl⟩ : ∃ l, (lkM M key).getD [] = l := ⟨_, rfl⟩
          have HL := Lib.hid hl
          have HS := Lib.hid (fun (wz : World) (hw : Ext wr wz) => (And.intro (tm_cells HP.out (HXP.out.trans hw)) (And.intro (tm_cells HS2.out (HXS.out.trans hw)) (hw.cell c0)) : (wz.cell? ⟨p, 0, none⟩ = some (.string na) ∧ wz.cell? ⟨p, 1, none⟩ = some (.bool ta) ∧ wz.cell? ⟨p, 2, none⟩ = some (.slice A n c)) ∧ (wz.cell? ⟨s, 0, none⟩ = some (.string na) ∧ wz.cell? ⟨s, 1, none⟩ = some (.bool tn) ∧ wz.cell? ⟨s, 2, none⟩ = some (.slice A n c)) ∧ wz.cell? (ad.add k) = some (.string key)))
          have HLB : Hid (∀ wz, Ext wr wz → Calls Try.prog 31 #[.pointer (some ⟨x, 0, none⟩), .string key] wz fun e w' => ∃ v, e = .returned v ∧ Row labC w' v l ∧ Ext wz w') := Lib.hid (fun wz hw => by
            have := labels_list (HI6.out.ext (HXS.out.trans hw)) key HKO.out
            rwa [HL.out] at this)
          have HAV : Hid (∀ wz, Ext wr wz → Txt wz (.slice A n c) va) := Lib.hid (fun wz hw => HA.out.ext (HX.out.trans (HXP.out.trans hw)))
          have hxt := Ext.drew wr
          have hs0 := HS.out _ (Ext.refl _)
          clear hky hcell hl c0 hx
          obtain ⟨mt, hmt⟩ : ∃ b, matchT ⟨na, ta, va⟩ l = b := ⟨_, rfl⟩
          have hmn := HMN.out l
          rw [hmt] at hmn
          have HMT := Lib.hid hmt
          clear hmt
          cases mt with
          | true =>
            have HMF : Hid (matchT ⟨na, tn, va⟩ l = false) := Lib.hid hmn
            clear hmn
            go_upto_region 10 with fail
            go_region_held3 (fun wz => (wz.cell? ⟨p, 0, none⟩ = some (.string na) ∧ wz.cell? ⟨p, 1, none⟩ = some (.bool ta) ∧ wz.cell? ⟨p, 2, none⟩ = some (.slice A n c)) ∧ (wz.cell? ⟨s, 0, none⟩ = some (.string na) ∧ wz.cell? ⟨s, 1, none⟩ = some (.bool tn) ∧ wz.cell? ⟨s, 2, none⟩ = some (.slice A n c)) ∧ wz.cell? (ad.add k) = some (.string key)) (first | assumption | exact HS.out _ hxt) (first
              | (go_at_call 31
                 refine (HLB.out _ hxt).mono ?_
                 rintro e v5 ⟨lv, rfl, hlv, hx⟩
                 have HLV := Lib.hid hlv
                 have hxt := hxt.trans hx
                 clear hlv hx)
              | (go_at_call_of 20 (Value.bool tn)
                 refine (match_any ⟨na, tn, va⟩ (.slice A n c) _ l _ (HAV.out _ hxt) HLV.out).mono ?_
                 rintro e v6 ⟨rfl, hx⟩
                 rw [HMF.out]
                 have hxt := hxt.trans hx
                 clear hx)
              | (go_at_call 20
                 refine (match_any ⟨na, ta, va⟩ (.slice A n c) _ l _ (HAV.out _ hxt) HLV.out).mono ?_
                 rintro e v7 ⟨rfl, hx⟩
                 rw [HMT.out]
                 have hxt := hxt.trans hx
                 clear hx HLV))
            go_wp2_with fail
            go_roundw
            case rel => exact ⟨k + 1, by omega, by go_num, HXR.out.trans hxt⟩
            case measure => simp [intOf]; omega
          | false =>
            have HMF : Hid (matchT ⟨na, tn, va⟩ l = true) := Lib.hid hmn
            clear hmn
            go_upto_region 10 with fail
            go_region_held3 (fun wz => (wz.cell? ⟨p, 0, none⟩ = some (.string na) ∧ wz.cell? ⟨p, 1, none⟩ = some (.bool ta) ∧ wz.cell? ⟨p, 2, none⟩ = some (.slice A n c)) ∧ (wz.cell? ⟨s, 0, none⟩ = some (.string na) ∧ wz.cell? ⟨s, 1, none⟩ = some (.bool tn) ∧ wz.cell? ⟨s, 2, none⟩ = some (.slice A n c)) ∧ wz.cell? (ad.add k) = some (.string key)) (first | assumption | exact HS.out _ hxt) (first
              | (go_at_call 31
                 refine (HLB.out _ hxt).mono ?_
                 rintro e v5 ⟨lv, rfl, hlv, hx⟩
                 have HLV := Lib.hid hlv
                 have hxt := hxt.trans hx
                 clear hlv hx)
              | (go_at_call_of 20 (Value.bool tn)
                 refine (match_any ⟨na, tn, va⟩ (.slice A n c) _ l _ (HAV.out _ hxt) HLV.out).mono ?_
                 rintro e v6 ⟨rfl, hx⟩
                 rw [HMF.out]
                 have hxt := hxt.trans hx
                 clear hx)
              | (go_at_call 20
                 refine (match_any ⟨na, ta, va⟩ (.slice A n c) _ l _ (HAV.out _ hxt) HLV.out).mono ?_
                 rintro e v7 ⟨rfl, hx⟩
                 rw [HMT.out]
                 have hxt := hxt.trans hx
                 clear hx HLV))
            go_wp2_with fail
            go_roundw
            case rel => exact ⟨k + 1, by omega, by go_num, HXR.out.trans hxt⟩
            case measure => simp [intOf]; omega
        · obtain rfl : k = kn := by omega
          obtain ⟨d0, d1, d2⟩ := tm_cells HP.out HXP.out
          have HKX : Hid (∀ wz, Ext wr wz → Txt wz (.slice KA k kc) (keysM M)) := Lib.hid (fun wz hw => HKV.out.ext (HXR.out.trans hw))
          have HIX : Hid (∀ wz, Ext wr wz → Ix wz (.pointer (some ⟨x, 0, none⟩)) M) := Lib.hid (fun wz hw => .inr ⟨x, L, _, rfl, HI6.out.ext (HXS.out.trans hw)⟩)
          have HTA : Hid (∀ wz, Ext wr wz → Txt wz (.slice A n c) va) := Lib.hid (fun wz hw => HA.out.ext (HX.out.trans (HXP.out.trans hw)))
          have HTB : Hid (∀ wz, Ext wr wz → Txt wz (.slice B m d) vb) := Lib.hid (fun wz hw => HB.out.ext (HX.out.trans (HXP.out.trans hw)))
          have HO1 : Hid (∀ b, ∀ t ∈ [(⟨na, b, va⟩ : Tm)], TmOk t ∧ t.vals.length ≤ 1000) := Lib.hid (fun b t ht => by
            obtain rfl := List.mem_singleton.1 ht
            exact ⟨⟨HAO.out.name, HAO.out.vals⟩, by have := HBA.out.1; dsimp only; omega⟩)
          have HO2 : Hid (TmOk ⟨nb, tb, vb⟩ ∧ vb.length ≤ 1000) := Lib.hid ⟨HBO.out, by have := HBB.out.1; omega⟩
          have hm20 : M.length ≤ 1000 := by have := HML.out; omega
          go_wp2_with fail
          refine (findT_any (.pointer (some ⟨x, 0, none⟩)) M [⟨na, ta, va⟩] _ _ (HIX.out _ (Ext.alloc wr _)) hm20 (tms_one wr 24 A n c ⟨na, ta, va⟩ (HTA.out _ (Ext.refl _))) (HO1.out ta)).mono ?_
          rintro e y1 ⟨s1, rfl, hs, hx⟩
          have HF1 := Lib.hid hs
          have HY1 := Lib.hid ((Ext.alloc wr (.cells #[.string na, .bool ta, .slice A n c] 24)).trans hx)
          clear hs hx d0 d1 d2
          obtain ⟨d0, d1, d2⟩ := tm_cells HS2.out (HXS.out.trans HY1.out)
          go_wp2_with fail
          refine (findT_any (.pointer (some ⟨x, 0, none⟩)) M [⟨na, tn, va⟩] _ _ (HIX.out _ (HY1.out.trans (Ext.alloc y1 _))) hm20 (tms_one y1 24 A n c ⟨na, tn, va⟩ (HTA.out _ HY1.out)) (HO1.out tn)).mono ?_
          rintro e y2 ⟨s2, rfl, hs, hx⟩
          have HF2 := Lib.hid hs
          have HY12 := Lib.hid ((Ext.alloc y1 (.cells #[.string na, .bool tn, .slice A n c] 24)).trans hx)
          have HY2 := Lib.hid (HY1.out.trans HY12.out)
          clear hs hx d0 d1 d2
          obtain ⟨d0, d1, d2⟩ := tm_cells HP.out (HXP.out.trans HY2.out)
          obtain ⟨e0, e1, e2⟩ := tm_cells HQ.out (HXP.out.trans HY2.out)
          go_wp2_with fail
          refine (findT_any (.pointer (some ⟨x, 0, none⟩)) M [⟨na, ta, va⟩, ⟨nb, tb, vb⟩] _ _ (HIX.out _ (HY2.out.trans (Ext.alloc y2 _))) hm20 (tms_two y2 24 A B n c m d ⟨na, ta, va⟩ ⟨nb, tb, vb⟩ (HTA.out _ HY2.out) (HTB.out _ HY2.out)) (by
            intro t ht
            rcases List.mem_cons.1 ht with rfl | ht
            · exact HO1.out ta _ (List.mem_singleton.2 rfl)
            · obtain rfl := List.mem_singleton.1 ht
              exact HO2.out)).mono ?_
          rintro e y3 ⟨s3, rfl, hs, hx⟩
          have HF3 := Lib.hid hs
          have HY23 := Lib.hid ((Ext.alloc y2 (.cells #[.string na, .bool ta, .slice A n c, .string nb, .bool tb, .slice B m d] 24)).trans hx)
          have HY3 := Lib.hid (HY2.out.trans HY23.out)
          clear hs hx d0 d1 d2 e0 e1 e2
          obtain ⟨d0, d1, d2⟩ := tm_cells HP.out (HXP.out.trans HY3.out)
          obtain ⟨e0, e1, e2⟩ := tm_cells HQ.out (HXP.out.trans HY3.out)
          go_wp2_with fail
          refine (findT_any (.pointer (some ⟨x, 0, none⟩)) M [⟨nb, tb, vb⟩, ⟨na, ta, va⟩] _ _ (HIX.out _ (HY3.out.trans (Ext.alloc y3 _))) hm20 (tms_two y3 24 B A m d n c ⟨nb, tb, vb⟩ ⟨na, ta, va⟩ (HTB.out _ HY3.out) (HTA.out _ HY3.out)) (by
            intro t ht
            rcases List.mem_cons.1 ht with rfl | ht
            · exact HO2.out
            · exact HO1.out ta _ ht)).mono ?_
          rintro e y4 ⟨s4, rfl, hs, hx⟩
          rw [found_swap] at hs
          have HF4 := Lib.hid hs
          have HY34 := Lib.hid ((Ext.alloc y3 (.cells #[.string nb, .bool tb, .slice B m d, .string na, .bool ta, .slice A n c] 24)).trans hx)
          have HY4 := Lib.hid (HY3.out.trans HY34.out)
          clear hs hx d0 d1 d2 e0 e1 e2
          have HF1' := Lib.hid (HF1.out.ext (HY12.out.trans (HY23.out.trans HY34.out)))
          have HF2' := Lib.hid (HF2.out.ext (HY23.out.trans HY34.out))
          have HF3' := Lib.hid (HF3.out.ext HY34.out)
          obtain ⟨F1, m1, g1, rfl, hm1, hg1, hg1', _⟩ := HF1.out
          obtain ⟨F2, m2, g2, rfl, hm2, hg2, hg2', _⟩ := HF2.out
          have hmm : m1 + m2 = k := by have := HFB.out; have := HKN.out; omega
          have hwr : IntKind.i64.wrap ((m1 : Int) + (m2 : Int)) = (k : Int) := by rw [IntWalk.i64_left]; unfold wrap64; omega
          have hfl := found_len M [⟨na, ta, va⟩]
          have hfl2 := found_len M [⟨na, tn, va⟩]
          have hfl3 := found_len M [⟨na, ta, va⟩, ⟨nb, tb, vb⟩]
          have HLN : Hid ((foundBy M [⟨na, ta, va⟩]).length + (foundBy M [⟨na, tn, va⟩]).length ≤ 4294967296 ∧ (foundBy M [⟨na, ta, va⟩]).length + (foundBy M [⟨na, ta, va⟩, ⟨nb, tb, vb⟩]).length ≤ 4294967296) := Lib.hid ⟨by omega, by omega⟩
          clear hm1 hm2 hfl hfl2 hfl3 hmm
          go_wp2_with fail
          refine (ror_txt _ _ _ _ y4 HF1'.out HF2'.out ((found_fit HGM.out _).app (found_fit HGM.out _)) HLN.out.1).mono ?_
          rintro e y5 ⟨s5, rfl, hs, hx⟩
          rw [HFO.out] at hs
          have HS5 := Lib.hid hs
          have HY5 := Lib.hid hx
          clear hs hx
          go_wp2_with fail
          refine (same_yes s5 (.slice KA k kc) _ _ y5 HS5.out (HKX.out _ (HY4.out.trans HY5.out)) rfl).mono ?_
          rintro e y6 ⟨rfl, hx⟩
          have HY6 := Lib.hid (HY5.out.trans hx)
          clear hx
          go_wp2_with fail
          refine (same_yes s3 s4 _ _ y6 (HF3'.out.ext HY6.out) (HF4.out.ext HY6.out) rfl).mono ?_
          rintro e y7 ⟨rfl, hx⟩
          have HY7 := Lib.hid (HY6.out.trans hx)
          clear hx
          go_wp2_with fail
          refine (ror_txt _ s3 _ _ y7 (HF1'.out.ext HY7.out) (HF3'.out.ext HY7.out) ((found_fit HGM.out _).app (found_fit HGM.out _)) HLN.out.2).mono ?_
          rintro e y8 ⟨s8, rfl, hs, hx⟩
          rw [found_more HGM.out] at hs
          have HS8 := Lib.hid hs
          have HY8 := Lib.hid (HY7.out.trans hx)
          clear hs hx
          go_wp2_with fail
          refine (same_yes s8 (.slice F1 m1 g1) _ _ y8 HS8.out (HF1'.out.ext HY8.out) rfl).mono ?_
          rintro e y9 ⟨rfl, hx⟩
          have HEND := Lib.hid (HX.out.trans (HXP.out.trans (HY4.out.trans (HY8.out.trans hx))))
          clear hx
          go_wp2_with fail
          refine (known_any _).mono ?_
          rintro e v9 ⟨rfl, hx9⟩
          go_wp2_with fail
          go_ret
          exact ⟨rfl, HEND.out.trans hx9⟩
end Go.Proofs.Ytccjbmmhdbainaa
