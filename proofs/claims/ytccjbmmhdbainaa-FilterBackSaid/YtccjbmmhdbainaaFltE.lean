/- FilterReads walked. -/
import Derived.Test.YtccjbmmhdbainaaFltX
import Derived.Deep.RegionHeld3
namespace Go.Proofs.Ytccjbmmhdbainaa
open Go.RowKit Sets
set_option linter.unusedVariables false
set_option linter.unusedSectionVars false
set_option linter.unusedSimpArgs false
set_option maxRecDepth 100000

def parT (s : ByteArray) : Tm := (parseB s).getD ⟨⟨#[]⟩, false, []⟩
def parN (s : ByteArray) : Int := if (parseB s).isSome then 0 else 4
theorem parE_det {s : ByteArray} {e : Ending} {w : World} (h : ParE s e w) : ∃ u, e = .returned (.tuple #[tmV (parT s) u, .int .i64 (parN s)]) ∧ Txt w u (parT s).vals := by
  rcases h with ⟨hp, rfl⟩ | ⟨t, u, hp, rfl, hu⟩
  · unfold parT parN
    rw [hp]
    exact ⟨.slice none 0 0, rfl, txt_nil w⟩
  · unfold parT parN
    rw [hp]
    exact ⟨u, rfl, hu.txt⟩
theorem parse_det (s : ByteArray) (w : World) (hs : s.size ≤ 100000) : Calls Try.prog 22 #[.string s] w fun e w' => ∃ u, e = .returned (.tuple #[tmV (parT s) u, .int .i64 (parN s)]) ∧ Txt w' u (parT s).vals ∧ Ext w w' := by
  refine (parse_any s w hs).mono ?_
  rintro e w' ⟨h, hx⟩
  obtain ⟨u, h1, h2⟩ := parE_det h
  exact ⟨u, h1, h2, hx⟩
theorem rparse_det (s : ByteArray) (w : World) (hs : s.size ≤ 100000) : Calls Try.prog 23 #[.string s] w fun e w' => ∃ u, e = .returned (.tuple #[tmV (parT s) u, .int .i64 (parN s)]) ∧ Txt w' u (parT s).vals ∧ Ext w w' := by
  refine (rparse_any s w hs).mono ?_
  rintro e w' ⟨h, hx⟩
  obtain ⟨u, h1, h2⟩ := parE_det h
  exact ⟨u, h1, h2, hx⟩
def allT (l : List ByteArray) : List Tm := (allB l).getD []
def allN (l : List ByteArray) : Int := if (allB l).isSome then 0 else 4
theorem tms_nil (w : World) : Tms w (.slice none 0 0) [] := ⟨[], ⟨none, 0, 0, rfl, rfl, by omega, by simp [maxLen], Rd.nil _ _⟩, TmsT.nil w⟩
theorem allE_det {l : List ByteArray} {e : Ending} {w : World} (h : AllE l e w) : ∃ u, e = .returned (.tuple #[u, .int .i64 (allN l)]) ∧ Tms w u (allT l) := by
  rcases h with ⟨hp, rfl⟩ | ⟨t, u, hp, rfl, hu⟩
  · unfold allT allN
    rw [hp]
    exact ⟨.slice none 0 0, rfl, tms_nil w⟩
  · unfold allT allN
    rw [hp]
    exact ⟨u, rfl, hu⟩
theorem all_det (v : Value) (l : List ByteArray) (w : World) (h : Txt w v l) (hl : l.length ≤ 1000) (hs : ∀ s ∈ l, s.size ≤ 100000) : Calls Try.prog 24 #[v] w fun e w' => ∃ u, e = .returned (.tuple #[u, .int .i64 (allN l)]) ∧ Tms w' u (allT l) ∧ Ext w w' := by
  refine (all_any v l w h hl hs).mono ?_
  rintro e w' ⟨h, hx⟩
  obtain ⟨u, h1, h2⟩ := allE_det h
  exact ⟨u, h1, h2, hx⟩
theorem rall_det (v : Value) (l : List ByteArray) (w : World) (h : Txt w v l) (hl : l.length ≤ 1000) (hs : ∀ s ∈ l, s.size ≤ 100000) : Calls Try.prog 25 #[v] w fun e w' => ∃ u, e = .returned (.tuple #[u, .int .i64 (allN l)]) ∧ Tms w' u (allT l) ∧ Ext w w' := by
  refine (rall_any v l w h hl hs).mono ?_
  rintro e w' ⟨h, hx⟩
  obtain ⟨u, h1, h2⟩ := allE_det h
  exact ⟨u, h1, h2, hx⟩
theorem sameT_refl (t : Tm) : sameT t t = true := sameT_yes rfl rfl rfl
set_option maxHeartbeats 20000000 in
theorem filterReads_any (s : ByteArray) (v : Value) (l : List ByteArray) (w : World) (hs : s.size ≤ 9223372036854775807) (hl : Txt w v l) :
    Calls Try.prog 4 #[.string s, v] w fun e w' => e = .returned (.bool true) ∧ Ext w w' := by
  have HL := Lib.hid hl
  obtain ⟨A, n, c, rfl, hn, hnc, hc, hr⟩ := hl
  have HR := Lib.hid hr
  have HN := Lib.hid hn
  clear hr hn
  go_enter Try.func4, Try.ntmps4
  by_cases h300 : s.size ≤ 300
  · have h300I : decide ((300 : Int) < (s.size : Int)) = false := decide_eq_false (by omega)
    have h300J : decide (300 < s.size) = false := decide_eq_false (by omega)
    by_cases h30 : n ≤ 30
    · have h30I : decide ((30 : Int) < (n : Int)) = false := decide_eq_false (by omega)
      have h30J : decide (30 < n) = false := decide_eq_false (by omega)
      go_wp2_with fail
      go_loop [5] (fun i => ∃ k : Nat, k ≤ n ∧ i = .int .i64 (k : Int) ∧ Hid (∀ x ∈ l.take k, x.size ≤ 300)) (fun i => n - (intOf i).toNat)
      case atStart => exact ⟨0, by omega, rfl, Lib.hid (by simp)⟩
      case round =>
        obtain ⟨k, hk, rfl, HA⟩ := hrel
        by_cases hkn : k < n
        · have hkI : (k : Int) < (n : Int) := by omega
          have hkJ : (0 : Int) ≤ (k : Int) := by omega
          obtain ⟨x, hx⟩ : ∃ x, l[k]? = some x := ⟨_, List.getElem?_eq_getElem (by have := HN.out; omega)⟩
          obtain ⟨ad, rfl, c0⟩ := txt_cell HR.out hx
          by_cases hx3 : x.size ≤ 300
          · have hxI : decide ((300 : Int) < (x.size : Int)) = false := decide_eq_false (by omega)
            have hxJ : decide (300 < x.size) = false := decide_eq_false (by omega)
            have HA2 := Lib.hid (none_take HA.out hx hx3)
            clear hx hx3
            go_wp2_with fail
            go_round
            case rel => exact ⟨k + 1, by omega, by go_num, HA2⟩
            case measure => simp [intOf]; omega
          · have hxI : (300 : Int) < (x.size : Int) := by omega
            clear hx hx3
            go_wp2_with fail
            refine (known_any _).mono ?_
            rintro e v9 ⟨rfl, hx9⟩
            go_wp2_with fail
            go_ret
            exact ⟨rfl, hx9⟩
        · obtain rfl : k = n := by omega
          have HSZ : Hid (∀ x ∈ l, x.size ≤ 100000) := Lib.hid (fun x hx => by
            have h := HA.out
            rw [List.take_of_length_le (by rw [HN.out]; exact Nat.le_refl _)] at h
            have := h x hx
            omega)
          have HLN : Hid (l.length ≤ 1000) := Lib.hid (by rw [HN.out]; omega)
          go_wp2_with fail
          refine (parse_det s w (by omega)).mono ?_
          rintro e v1 ⟨u1, rfl, hu1, hx⟩
          have HSR := Lib.hid (sameT_refl (parT s))
          obtain ⟨T, hT⟩ : ∃ T, parT s = T := ⟨_, rfl⟩
          obtain ⟨N, hN⟩ : ∃ T, parN s = T := ⟨_, rfl⟩
          have HPT := Lib.hid hT
          have HPN := Lib.hid hN
          rw [hT, hN]
          rw [hT] at hu1 HSR
          clear hT hN
          obtain ⟨tn, tt, tv⟩ := T
          obtain ⟨A1, m1, k1, rfl, _⟩ := id hu1
          have hb1 := heap_alloc_new v1 (.cells #[.string tn, .bool tt, .slice A1 m1 k1] 24 (0, 0))
          have hx1 := hx.trans (Ext.alloc v1 (.cells #[.string tn, .bool tt, .slice A1 m1 k1] 24))
          have hu1' := hu1.ext (Ext.alloc v1 (.cells #[.string tn, .bool tt, .slice A1 m1 k1] 24))
          simp only [tmV]
          go_upto_region 9 with fail
          generalize v1.alloc (.cells #[.string tn, .bool tt, .slice A1 m1 k1] 24) = v2 at hb1 hx1 hu1' ⊢
          generalize v1.heap.size = p at hb1 ⊢
          have HX2 := Lib.hid hx1
          have HB2 := Lib.hid hb1
          have HU2 := Lib.hid hu1'
          clear hb1 hx1 hu1 hu1' hx
          go_wp2_with fail
          refine (rparse_det s v2 (by omega)).mono ?_
          rintro e v3 ⟨u2, rfl, hu1, hx⟩
          rw [HPT.out, HPN.out]
          rw [HPT.out] at hu1
          obtain ⟨A2, m2, k2, rfl, _⟩ := id hu1
          have hb1 := heap_alloc_new v3 (.cells #[.string tn, .bool tt, .slice A2 m2 k2] 30 (0, 0))
          have hx1 := hx.trans (Ext.alloc v3 (.cells #[.string tn, .bool tt, .slice A2 m2 k2] 30))
          have hu1' := hu1.ext (Ext.alloc v3 (.cells #[.string tn, .bool tt, .slice A2 m2 k2] 30))
          simp only [tmV]
          go_upto_region 10 with fail
          generalize v3.alloc (.cells #[.string tn, .bool tt, .slice A2 m2 k2] 30) = v4 at hb1 hx1 hu1' ⊢
          generalize v3.heap.size = q at hb1 ⊢
          have HX4 := Lib.hid (HX2.out.trans hx1)
          have HB4 := Lib.hid ((Cm.of_ext hx1).cells _ _ _ _ HB2.out)
          have HU4 := Lib.hid (HU2.out.ext hx1)
          have HC4 := Lib.hid hb1
          have HV4 := Lib.hid hu1'
          clear hb1 hx1 hu1 hu1' hx
          go_wp2_with fail
          refine (all_det _ l v4 (HL.out.ext HX4.out) HLN.out HSZ.out).mono ?_
          rintro e v5 ⟨u3, rfl, htm, hx⟩
          obtain ⟨TS, hTS⟩ : ∃ T, allT l = T := ⟨_, rfl⟩
          obtain ⟨AN, hAN⟩ : ∃ T, allN l = T := ⟨_, rfl⟩
          have HTS := Lib.hid hTS
          have HAN := Lib.hid hAN
          rw [hAN]
          rw [hTS] at htm
          clear hTS hAN
          have HX5 := Lib.hid hx
          have HT5 := Lib.hid htm
          clear htm hx
          go_wp2_with fail
          refine (rall_det _ l v5 (HL.out.ext (HX4.out.trans HX5.out)) HLN.out HSZ.out).mono ?_
          rintro e v6 ⟨u4, rfl, htm, hx⟩
          rw [HAN.out]
          rw [HTS.out] at htm
          have HX6 := Lib.hid (HX5.out.trans hx)
          obtain ⟨es, ⟨A5, m5, k5, rfl, hm5, hk5, hk5', hr5⟩, hes⟩ := HT5.out.ext hx
          obtain ⟨fs, ⟨A6, m6, k6, rfl, hm6, hk6, hk6', hr6⟩, hfs⟩ := htm
          obtain rfl : m5 = TS.length := by rw [← hm5, hes.1]
          obtain rfl : m6 = TS.length := by rw [← hm6, hfs.1]
          have HR5 := Lib.hid hr5
          have HR6 := Lib.hid hr6
          have HES := Lib.hid hes
          have HFS := Lib.hid hfs
          have HM5 := Lib.hid hm5
          have HM6 := Lib.hid hm6
          have hk5'' : k5 ≤ 9223372036854775807 := by simpa [maxLen] using hk5'
          have hk6'' : k6 ≤ 9223372036854775807 := by simpa [maxLen] using hk6'
          clear hr5 hr6 hes hfs hm5 hm6 hx hk5' hk6'
          have HS := Lib.hid (fun (wz : World) (hw : Ext v6 wz) => (And.intro (tm_cells HB4.out (HX6.out.trans hw)) (tm_cells HC4.out (HX6.out.trans hw)) : (wz.cell? ⟨p, 0, none⟩ = some (.string tn) ∧ wz.cell? ⟨p, 1, none⟩ = some (.bool tt) ∧ wz.cell? ⟨p, 2, none⟩ = some (.slice A1 m1 k1)) ∧ (wz.cell? ⟨q, 0, none⟩ = some (.string tn) ∧ wz.cell? ⟨q, 1, none⟩ = some (.bool tt) ∧ wz.cell? ⟨q, 2, none⟩ = some (.slice A2 m2 k2))))
          have hs0 := HS.out v6 (Ext.refl _)
          have HU6 := Lib.hid (HU4.out.ext HX6.out)
          have HV6 := Lib.hid (HV4.out.ext HX6.out)
          go_upto_region 12 with fail
          go_region_held3 (fun wz => (wz.cell? ⟨p, 0, none⟩ = some (.string tn) ∧ wz.cell? ⟨p, 1, none⟩ = some (.bool tt) ∧ wz.cell? ⟨p, 2, none⟩ = some (.slice A1 m1 k1)) ∧ (wz.cell? ⟨q, 0, none⟩ = some (.string tn) ∧ wz.cell? ⟨q, 1, none⟩ = some (.bool tt) ∧ wz.cell? ⟨q, 2, none⟩ = some (.slice A2 m2 k2))) (first | assumption | exact HS.out _ hxt) (first
            | (go_at_call 13
               refine (plain_any ⟨tn, tt, tv⟩ (.slice A1 m1 k1) _ (HU6.out.ext (Ext.drew v6))).mono ?_
               rintro e v7 ⟨rfl, hx⟩
               simp only [tmV]
               have hxt := (Ext.drew v6).trans hx
               clear hx)
            | (go_at_call 19
               refine (rsame_any ⟨tn, tt, tv⟩ ⟨tn, tt, tv⟩ (.slice A1 m1 k1) (.slice A2 m2 k2) _ (HU6.out.ext hxt) (HV6.out.ext hxt)).mono ?_
               rintro e v8 ⟨rfl, hx⟩
               rw [HSR.out]
               have hxt := hxt.trans hx
               clear hx))
          have HX8 := Lib.hid hxt
          clear hxt hs0
          go_wp2_with fail
          go_loopw [14] (fun i wr => ∃ j : Nat, j ≤ TS.length ∧ i = .int .i64 (j : Int) ∧ Ext v8 wr) (fun i _ => TS.length - (intOf i).toNat)
          case atStart => exact ⟨0, by omega, rfl, Ext.refl _⟩
          case round =>
            obtain ⟨j, hj, rfl, hx⟩ := hrel
            have HX9 := Lib.hid (HX8.out.trans hx)
            have HXJ := Lib.hid hx
            clear hx
            by_cases hjn : j < TS.length
            · have hjI : (j : Int) < (TS.length : Int) := by omega
              have hjJ : (0 : Int) ≤ (j : Int) := by omega
              obtain ⟨t, ht⟩ : ∃ x, TS[j]? = some x := ⟨_, List.getElem?_eq_getElem hjn⟩
              obtain ⟨e1, he1, hat1⟩ := HES.out.at_ ht
              obtain ⟨e2, he2, hat2⟩ := HFS.out.at_ ht
              obtain ⟨ad5, rfl⟩ : ∃ ad, A5 = some ad := row_some HR5.out tmC_len (by decide) (by have := HM5.out; omega)
              obtain ⟨ad6, rfl⟩ : ∃ ad, A6 = some ad := row_some HR6.out tmC_len (by decide) (by have := HM6.out; omega)
              have hs1 := And.intro (tme_cells (HR5.out.ext HX9.out) he1) (tme_cells (HR6.out.ext HX9.out) he2)
              have HS2 := Lib.hid (fun (wz : World) (hw : Ext wr wz) => And.intro (tme_cells (HR5.out.ext (HX9.out.trans hw)) he1) (tme_cells (HR6.out.ext (HX9.out.trans hw)) he2))
              have HST := Lib.hid (sameT_refl t)
              obtain ⟨en, et, ea, el, ec⟩ := e1
              obtain ⟨fn, ft, fa, fl, fc⟩ := e2
              obtain ⟨xn, xt, xv⟩ := t
              obtain ⟨rfl, rfl, hv1⟩ := hat1
              obtain ⟨rfl, rfl, hv2⟩ := hat2
              dsimp only at hs1 HS2 hv1 hv2
              have HV1 := Lib.hid (hv1.ext HX9.out)
              have HV2 := Lib.hid (hv2.ext HX9.out)
              clear ht he1 he2 hv1 hv2
              go_upto_region 17 with fail
              go_region_held3 (fun wz => (wz.cell? (ad5.add (j * 3)) = some (.string fn) ∧ wz.cell? ⟨(ad5.add (j * 3)).block, (ad5.add (j * 3)).off + 1, none⟩ = some (.bool ft) ∧ wz.cell? ⟨(ad5.add (j * 3)).block, (ad5.add (j * 3)).off + 2, none⟩ = some (.slice ea el ec)) ∧ (wz.cell? (ad6.add (j * 3)) = some (.string fn) ∧ wz.cell? ⟨(ad6.add (j * 3)).block, (ad6.add (j * 3)).off + 1, none⟩ = some (.bool ft) ∧ wz.cell? ⟨(ad6.add (j * 3)).block, (ad6.add (j * 3)).off + 2, none⟩ = some (.slice fa fl fc))) (first | assumption | exact HS2.out _ hxt) (first
                | (go_at_call 13
                   refine (plain_any ⟨fn, ft, xv⟩ (.slice ea el ec) _ (HV1.out.ext (Ext.drew wr))).mono ?_
                   rintro e v10 ⟨rfl, hx⟩
                   simp only [tmV]
                   have hxt := (Ext.drew wr).trans hx
                   clear hx)
                | (go_at_call 19
                   refine (rsame_any ⟨fn, ft, xv⟩ ⟨fn, ft, xv⟩ (.slice ea el ec) (.slice fa fl fc) _ (HV1.out.ext hxt) (HV2.out.ext hxt)).mono ?_
                   rintro e v11 ⟨rfl, hx⟩
                   rw [HST.out]
                   have hxt := hxt.trans hx
                   clear hx))
              go_wp2_with fail
              go_roundw
              case rel => exact ⟨j + 1, by omega, by go_num, HXJ.out.trans hxt⟩
              case measure => simp [intOf]; omega
            · obtain rfl : j = TS.length := by omega
              go_wp2_with fail
              refine (known_any _).mono ?_
              rintro e v9 ⟨rfl, hx9⟩
              go_wp2_with fail
              go_ret
              exact ⟨rfl, ((HX4.out.trans HX6.out).trans HX9.out).trans hx9⟩
    · have h30I : (30 : Int) < (n : Int) := by omega
      clear h30
      go_wp2_with fail
      refine (known_any _).mono ?_
      rintro e v9 ⟨rfl, hx9⟩
      go_wp2_with fail
      go_ret
      exact ⟨rfl, (Ext.refl w).trans hx9⟩
  · have h300I : (300 : Int) < (s.size : Int) := by omega
    clear h300
    go_wp2_with fail
    refine (known_any _).mono ?_
    rintro e v9 ⟨rfl, hx9⟩
    go_wp2_with fail
    go_ret
    exact ⟨rfl, (Ext.refl w).trans hx9⟩
end Go.Proofs.Ytccjbmmhdbainaa
