/- The document's Zag and Get, walked. -/
import Derived.Test.YtpdebandcmhbcaaDelJ
import Derived.Deep.CutBlock
namespace Go.Proofs.Ytpdebandcmhbcaa
open Go.RowKit Bit
set_option linter.unusedVariables false

theorem rZag_any (u : Nat) (w : World) (hu : u < 18446744073709551616) : Calls Try.prog 39 #[.int .u64 (u : Int)] w fun e w' => e = .returned (.int .i64 (zagN u)) ∧ w = w' := by
  have hq : Int.tdiv (u : Int) 2 = ((u / 2 : Nat) : Int) := by rw [Int.tdiv_eq_ediv_of_nonneg (by omega)]; omega
  have hr : Int.tmod (u : Int) 2 = ((u % 2 : Nat) : Int) := by rw [Int.tmod_eq_emod_of_nonneg (by omega)]; omega
  have hw : IntKind.u64.wrap ((u / 2 : Nat) : Int) = ((u / 2 : Nat) : Int) := by
    simp only [IntKind.wrap, IntKind.bits, IntKind.signed]
    simp
    omega
  have hi : IntKind.i64.wrap ((u / 2 : Nat) : Int) = ((u / 2 : Nat) : Int) := by rw [IntWalk.i64_left]; unfold wrap64; omega
  have hn : IntKind.i64.wrap (-((u / 2 : Nat) : Int)) = -((u / 2 : Nat) : Int) := by rw [IntWalk.i64_left]; unfold wrap64; omega
  have hs : IntKind.i64.wrap (-((u / 2 : Nat) : Int) - 1) = -((u / 2 : Nat) : Int) - 1 := by rw [IntWalk.i64_left]; unfold wrap64; omega
  have hz : zagN u = if u % 2 = 0 then ((u / 2 : Nat) : Int) else -((u / 2 : Nat) : Int) - 1 := by unfold zagN; split <;> omega
  rw [hz]
  generalize u / 2 = q at *
  rcases Nat.mod_two_eq_zero_or_one u with h | h
  · rw [h] at hr ⊢
    have hr0 : Int.tmod (u : Int) 2 = 0 := hr
    clear hr h hz
    go_enter Try.func39, Try.ntmps39
    go_wp2_with fail
    go_ret
    exact ⟨rfl, rfl⟩
  · rw [h] at hr ⊢
    have hr0 : Int.tmod (u : Int) 2 = 1 := hr
    clear hr h hz
    go_enter Try.func39, Try.ntmps39
    go_wp2_with fail
    go_ret
    exact ⟨rfl, rfl⟩
theorem ones_more {l : List Bool} {k : Nat} (h : k ≤ onesB 4 l) (h4 : k < 4) (hb : l[k]? = some true) : k + 1 ≤ onesB 4 l := by
  by_cases he : onesB 4 l = k
  · have hlt : k < l.length := (List.getElem?_eq_some_iff.1 hb).1
    have := ones_end 4 l (by omega) (by omega)
    rw [he, hb] at this
    simp at this
  · omega
theorem ones_stop {l : List Bool} {k : Nat} (h : k ≤ onesB 4 l) (hb : l[k]? = some false) : onesB 4 l = k := by
  by_cases he : k < onesB 4 l
  · have := ones_at 4 l k he
    rw [hb] at this
    simp at this
  · omega
theorem getB_short {l : List Bool} {k : Nat} (hk : onesB 4 l = k) (h : (k < 4 ∧ k = l.length) ∨ l.length < headN k + widthN k) : getB l = (0, 0, 3) := by
  unfold getB
  simp only [hk]
  by_cases h1 : k < 4 ∧ k = l.length
  · rw [if_pos h1]
  · rw [if_neg h1, if_pos (h.resolve_left h1)]
theorem getB_long {l : List Bool} {k : Nat} (hk : onesB 4 l = k) (hh : headN k + widthN k ≤ l.length) (hp : k < headN k + widthN k) :
    getB l = if classN (num ((l.drop (headN k)).take (widthN k))) ≠ k then (0, 0, 4) else (num ((l.drop (headN k)).take (widthN k)), headN k + widthN k, 0) := by
  unfold getB
  simp only [hk]
  rw [if_neg (by omega), if_neg (by omega)]
set_option maxHeartbeats 4000000 in
theorem rGet_any (v : Value) (l : List Bool) (w : World) (h : Boo w v l) : Calls Try.prog 25 #[v] w fun e w' => e = .returned (.tuple #[.int .u64 ((getB l).1 : Int), .int .i64 ((getB l).2.1 : Int), .int .i64 (getB l).2.2]) ∧ Ext w w' := by
  obtain ⟨i0, hi0, hz0, hz1, hz2⟩ := info_parts Try.boolInfo
  obtain ⟨A, n, c, rfl, hn, hnc, hcm, hr⟩ := h
  have HN := Lib.hid hn
  have HR := Lib.hid hr
  have hc' : c ≤ 9223372036854775807 := by simpa [maxLen] using hcm
  clear hn hr
  go_enter Try.func25, Try.ntmps25
  go_upto_block 0 with fail
  go_cut [5] from 9 (fun s5 wx => ∃ k : Nat, s5 = .int .i64 (k : Int) ∧ onesB 4 l = k ∧ Ext w wx)
  case first =>
    go_wp2_with fail
    go_loopw [5] (fun i wr => ∃ k : Nat, k ≤ n ∧ k ≤ 4 ∧ i = .int .i64 (k : Int) ∧ k ≤ onesB 4 l ∧ Ext w wr) (fun i _ => n - (intOf i).toNat)
    case atStart => exact ⟨0, by omega, by omega, rfl, by omega, Ext.refl _⟩
    case round =>
      obtain ⟨k, hk, hk4, rfl, ho, hx⟩ := hrel
      have HO := Lib.hid ho
      have HX := Lib.hid hx
      clear ho hx
      by_cases h4 : k < 4
      · have h4I : (k : Int) < 4 := by omega
        by_cases hkn : k < n
        · have hkI : (k : Int) < (n : Int) := by omega
          have hkJ : (0 : Int) ≤ (k : Int) := by omega
          obtain ⟨ad, hA, hcell⟩ := HR.out (by intro h0; have := congrArg List.length h0; rw [List.length_map, HN.out] at this; simp at this; omega)
          subst hA
          obtain ⟨b, hb⟩ : ∃ b, l[k]? = some b := ⟨_, List.getElem?_eq_getElem (by have := HN.out; omega)⟩
          have c0 : wr.cell? (ad.add k) = some (.bool b) := HX.out.cell (hcell k _ (by rw [List.getElem?_map, hb]; rfl))
          cases b with
          | true =>
            have HM := Lib.hid (ones_more HO.out h4 hb)
            clear hb hcell
            go_wp2_with fail
            go_roundw
            case rel => exact ⟨k + 1, by omega, by omega, by go_num, HM.out, HX.out⟩
            case measure => simp [intOf]; omega
          | false =>
            have HM := Lib.hid (ones_stop HO.out hb)
            clear hb hcell
            go_wp2_with fail
            go_meet
            exact ⟨k, rfl, HM.out, HX.out⟩
        · have hkI : ¬ (k : Int) < (n : Int) := by omega
          have HM : Hid (onesB 4 l = k) := Lib.hid (by have := ones_len 4 l; have := HO.out; have := HN.out; omega)
          go_wp2_with fail
          go_meet
          exact ⟨k, rfl, HM.out, HX.out⟩
      · have h4I : ¬ (k : Int) < 4 := by omega
        have HM : Hid (onesB 4 l = k) := Lib.hid (by have := ones_le 4 l; have := HO.out; omega)
        go_wp2_with fail
        go_meet
        exact ⟨k, rfl, HM.out, HX.out⟩
  case rest =>
    obtain ⟨k, rfl, hk, hx⟩ := hcut
    have HX := Lib.hid hx
    have hk4 : k ≤ 4 := by rw [← hk]; exact ones_le 4 l
    clear hx
    rcases (by omega : k = 0 ∨ k = 1 ∨ k = 2 ∨ k = 3 ∨ k = 4) with rfl | rfl | rfl | rfl | rfl
    · have HK := Lib.hid hk
      clear hk hk4
      by_cases hnk : n = 0
      · have hb : ((0 : Int) == (n : Int)) = true := by rw [beq_iff_eq]; omega
        have HF := Lib.hid (getB_short (k := 0) HK.out (by rw [HN.out]; simp [headN, widthN]; omega))
        go_wp2_with fail
        go_ret3
        exact ⟨by rw [HF.out]; rfl, by first | exact HX.out | exact HX.out.trans (Ext.alloc _ _)⟩
      · have hb : ((0 : Int) == (n : Int)) = false := by rw [beq_eq_false_iff_ne]; omega
        have hI : (1 : Int) ≤ (n : Int) := by omega
        have HL := Lib.hid (getB_long (k := 0) HK.out (by rw [HN.out]; simp only [headN, widthN]; omega) (by decide))
        obtain ⟨A1, hR1, hrun1⟩ := cut_mid (P := Try.prog) 31 4 i0 1 Try.underlying31 hi0 hz1 HR.out (by rw [List.length_map, HN.out]; omega) hnc 1 1 (1 : Int) (1 : Int) rfl rfl (by decide) (by omega)
        have hR2 : Rd w A1 (((l.drop 1).take 0).map .bool) := by simpa [List.map_drop, List.map_take] using hR1
        have hrun2 : ∀ w', (Instr.slice 31 (.slice A n c) (some (.int .i64 1)) (some (.int .i64 1)) none).run Try.prog w' = .ok (.slice A1 0 (c - 1)) w' := hrun1
        have hl2 : ((l.drop 1).take 0).length = 0 := by rw [List.length_take, List.length_drop, HN.out]; omega
        have HL2 := Lib.hid hl2
        have HR2 := Lib.hid hR2
        have hU : num ((l.drop 1).take 0) < 18446744073709551616 := Nat.lt_of_lt_of_le (num_lt _) (by rw [hl2]; decide)
        have HLN : Hid (getB l = if classN (num ((l.drop 1).take 0)) ≠ 0 then (0, 0, 4) else (num ((l.drop 1).take 0), 1, 0)) := HL
        have HD : Hid (sizeN (num ((l.drop 1).take 0)) = 1 ↔ classN (num ((l.drop 1).take 0)) = 0) := Lib.hid (sizes_differ (class_le _) (b := 0) (by decide))
        have HU := Lib.hid hU
        clear hR1 hrun1 hR2 hl2 hU HL
        go_wp2_with fail
        refine (rNumber_any _ ((l.drop 1).take 0) _ ⟨A1, 0, c - 1, rfl, HL2.out, by omega, by simp only [maxLen] at *; omega, HR2.out.ext (HX.out.trans (Ext.alloc _ _))⟩ (by rw [HL2.out]; decide)).mono ?_
        rintro e _ ⟨rfl, rfl⟩
        generalize num ((l.drop 1).take 0) = U at HLN HD HU ⊢
        go_wp2_with fail
        refine (rCode_any U _ HU.out).mono ?_
        rintro e v1 ⟨x, rfl, hbo, hx1⟩
        obtain ⟨A2, n2, c2, rfl, hn2, _, _, _⟩ := hbo
        rw [codeB_len] at hn2
        have HX2 := Lib.hid ((HX.out.trans (Ext.alloc _ _)).trans hx1)
        clear hx1
        by_cases hcl : classN U = 0
        · obtain rfl : n2 = 1 := hn2.symm.trans (HD.out.2 hcl)
          have HF : Hid (getB l = (U, 1, 0)) := Lib.hid (by rw [HLN.out, if_neg (by simpa using hcl)])
          clear hcl hn2
          go_wp2_with fail
          go_ret3
          exact ⟨by rw [HF.out]; rfl, HX2.out⟩
        · have hne : ((n2 : Int) == 1) = false := by
            rw [beq_eq_false_iff_ne]
            intro h
            exact hcl (HD.out.1 (by omega))
          have HF : Hid (getB l = (0, 0, 4)) := Lib.hid (by rw [HLN.out, if_pos hcl])
          clear hcl hn2
          go_wp2_with fail
          go_ret3
          exact ⟨by rw [HF.out]; rfl, HX2.out⟩
    · have HK := Lib.hid hk
      clear hk hk4
      by_cases hnk : n = 1
      · have hb : ((1 : Int) == (n : Int)) = true := by rw [beq_iff_eq]; omega
        have HF := Lib.hid (getB_short (k := 1) HK.out (by rw [HN.out]; simp [headN, widthN]; omega))
        go_wp2_with fail
        go_ret3
        exact ⟨by rw [HF.out]; rfl, by first | exact HX.out | exact HX.out.trans (Ext.alloc _ _)⟩
      · have hb : ((1 : Int) == (n : Int)) = false := by rw [beq_eq_false_iff_ne]; omega
        by_cases hlen : n < 9
        · have hI : (n : Int) < 9 := by omega
          have HF := Lib.hid (getB_short (k := 1) HK.out (by rw [HN.out]; simp [headN, widthN]; omega))
          go_wp2_with fail
          go_ret3
          exact ⟨by rw [HF.out]; rfl, by first | exact HX.out | exact HX.out.trans (Ext.alloc _ _)⟩
        · have hI : (9 : Int) ≤ (n : Int) := by omega
          have HL := Lib.hid (getB_long (k := 1) HK.out (by rw [HN.out]; simp only [headN, widthN]; omega) (by decide))
          obtain ⟨A1, hR1, hrun1⟩ := cut_mid (P := Try.prog) 31 4 i0 1 Try.underlying31 hi0 hz1 HR.out (by rw [List.length_map, HN.out]; omega) hnc 2 9 (2 : Int) (9 : Int) rfl rfl (by decide) (by omega)
          have hR2 : Rd w A1 (((l.drop 2).take 7).map .bool) := by simpa [List.map_drop, List.map_take] using hR1
          have hrun2 : ∀ w', (Instr.slice 31 (.slice A n c) (some (.int .i64 2)) (some (.int .i64 9)) none).run Try.prog w' = .ok (.slice A1 7 (c - 2)) w' := hrun1
          have hl2 : ((l.drop 2).take 7).length = 7 := by rw [List.length_take, List.length_drop, HN.out]; omega
          have HL2 := Lib.hid hl2
          have HR2 := Lib.hid hR2
          have hU : num ((l.drop 2).take 7) < 18446744073709551616 := Nat.lt_of_lt_of_le (num_lt _) (by rw [hl2]; decide)
          have HLN : Hid (getB l = if classN (num ((l.drop 2).take 7)) ≠ 1 then (0, 0, 4) else (num ((l.drop 2).take 7), 9, 0)) := HL
          have HD : Hid (sizeN (num ((l.drop 2).take 7)) = 9 ↔ classN (num ((l.drop 2).take 7)) = 1) := Lib.hid (sizes_differ (class_le _) (b := 1) (by decide))
          have HU := Lib.hid hU
          clear hR1 hrun1 hR2 hl2 hU HL
          go_wp2_with fail
          refine (rNumber_any _ ((l.drop 2).take 7) _ ⟨A1, 7, c - 2, rfl, HL2.out, by omega, by simp only [maxLen] at *; omega, HR2.out.ext (HX.out.trans (Ext.alloc _ _))⟩ (by rw [HL2.out]; decide)).mono ?_
          rintro e _ ⟨rfl, rfl⟩
          generalize num ((l.drop 2).take 7) = U at HLN HD HU ⊢
          go_wp2_with fail
          refine (rCode_any U _ HU.out).mono ?_
          rintro e v1 ⟨x, rfl, hbo, hx1⟩
          obtain ⟨A2, n2, c2, rfl, hn2, _, _, _⟩ := hbo
          rw [codeB_len] at hn2
          have HX2 := Lib.hid ((HX.out.trans (Ext.alloc _ _)).trans hx1)
          clear hx1
          by_cases hcl : classN U = 1
          · obtain rfl : n2 = 9 := hn2.symm.trans (HD.out.2 hcl)
            have HF : Hid (getB l = (U, 9, 0)) := Lib.hid (by rw [HLN.out, if_neg (by simpa using hcl)])
            clear hcl hn2
            go_wp2_with fail
            go_ret3
            exact ⟨by rw [HF.out]; rfl, HX2.out⟩
          · have hne : ((n2 : Int) == 9) = false := by
              rw [beq_eq_false_iff_ne]
              intro h
              exact hcl (HD.out.1 (by omega))
            have HF : Hid (getB l = (0, 0, 4)) := Lib.hid (by rw [HLN.out, if_pos hcl])
            clear hcl hn2
            go_wp2_with fail
            go_ret3
            exact ⟨by rw [HF.out]; rfl, HX2.out⟩
    · have HK := Lib.hid hk
      clear hk hk4
      by_cases hnk : n = 2
      · have hb : ((2 : Int) == (n : Int)) = true := by rw [beq_iff_eq]; omega
        have HF := Lib.hid (getB_short (k := 2) HK.out (by rw [HN.out]; simp [headN, widthN]; omega))
        go_wp2_with fail
        go_ret3
        exact ⟨by rw [HF.out]; rfl, by first | exact HX.out | exact HX.out.trans (Ext.alloc _ _)⟩
      · have hb : ((2 : Int) == (n : Int)) = false := by rw [beq_eq_false_iff_ne]; omega
        by_cases hlen : n < 15
        · have hI : (n : Int) < 15 := by omega
          have HF := Lib.hid (getB_short (k := 2) HK.out (by rw [HN.out]; simp [headN, widthN]; omega))
          go_wp2_with fail
          go_ret3
          exact ⟨by rw [HF.out]; rfl, by first | exact HX.out | exact HX.out.trans (Ext.alloc _ _)⟩
        · have hI : (15 : Int) ≤ (n : Int) := by omega
          have HL := Lib.hid (getB_long (k := 2) HK.out (by rw [HN.out]; simp only [headN, widthN]; omega) (by decide))
          obtain ⟨A1, hR1, hrun1⟩ := cut_mid (P := Try.prog) 31 4 i0 1 Try.underlying31 hi0 hz1 HR.out (by rw [List.length_map, HN.out]; omega) hnc 3 15 (3 : Int) (15 : Int) rfl rfl (by decide) (by omega)
          have hR2 : Rd w A1 (((l.drop 3).take 12).map .bool) := by simpa [List.map_drop, List.map_take] using hR1
          have hrun2 : ∀ w', (Instr.slice 31 (.slice A n c) (some (.int .i64 3)) (some (.int .i64 15)) none).run Try.prog w' = .ok (.slice A1 12 (c - 3)) w' := hrun1
          have hl2 : ((l.drop 3).take 12).length = 12 := by rw [List.length_take, List.length_drop, HN.out]; omega
          have HL2 := Lib.hid hl2
          have HR2 := Lib.hid hR2
          have hU : num ((l.drop 3).take 12) < 18446744073709551616 := Nat.lt_of_lt_of_le (num_lt _) (by rw [hl2]; decide)
          have HLN : Hid (getB l = if classN (num ((l.drop 3).take 12)) ≠ 2 then (0, 0, 4) else (num ((l.drop 3).take 12), 15, 0)) := HL
          have HD : Hid (sizeN (num ((l.drop 3).take 12)) = 15 ↔ classN (num ((l.drop 3).take 12)) = 2) := Lib.hid (sizes_differ (class_le _) (b := 2) (by decide))
          have HU := Lib.hid hU
          clear hR1 hrun1 hR2 hl2 hU HL
          go_wp2_with fail
          refine (rNumber_any _ ((l.drop 3).take 12) _ ⟨A1, 12, c - 3, rfl, HL2.out, by omega, by simp only [maxLen] at *; omega, HR2.out.ext (HX.out.trans (Ext.alloc _ _))⟩ (by rw [HL2.out]; decide)).mono ?_
          rintro e _ ⟨rfl, rfl⟩
          generalize num ((l.drop 3).take 12) = U at HLN HD HU ⊢
          go_wp2_with fail
          refine (rCode_any U _ HU.out).mono ?_
          rintro e v1 ⟨x, rfl, hbo, hx1⟩
          obtain ⟨A2, n2, c2, rfl, hn2, _, _, _⟩ := hbo
          rw [codeB_len] at hn2
          have HX2 := Lib.hid ((HX.out.trans (Ext.alloc _ _)).trans hx1)
          clear hx1
          by_cases hcl : classN U = 2
          · obtain rfl : n2 = 15 := hn2.symm.trans (HD.out.2 hcl)
            have HF : Hid (getB l = (U, 15, 0)) := Lib.hid (by rw [HLN.out, if_neg (by simpa using hcl)])
            clear hcl hn2
            go_wp2_with fail
            go_ret3
            exact ⟨by rw [HF.out]; rfl, HX2.out⟩
          · have hne : ((n2 : Int) == 15) = false := by
              rw [beq_eq_false_iff_ne]
              intro h
              exact hcl (HD.out.1 (by omega))
            have HF : Hid (getB l = (0, 0, 4)) := Lib.hid (by rw [HLN.out, if_pos hcl])
            clear hcl hn2
            go_wp2_with fail
            go_ret3
            exact ⟨by rw [HF.out]; rfl, HX2.out⟩
    · have HK := Lib.hid hk
      clear hk hk4
      by_cases hnk : n = 3
      · have hb : ((3 : Int) == (n : Int)) = true := by rw [beq_iff_eq]; omega
        have HF := Lib.hid (getB_short (k := 3) HK.out (by rw [HN.out]; simp [headN, widthN]; omega))
        go_wp2_with fail
        go_ret3
        exact ⟨by rw [HF.out]; rfl, by first | exact HX.out | exact HX.out.trans (Ext.alloc _ _)⟩
      · have hb : ((3 : Int) == (n : Int)) = false := by rw [beq_eq_false_iff_ne]; omega
        by_cases hlen : n < 28
        · have hI : (n : Int) < 28 := by omega
          have HF := Lib.hid (getB_short (k := 3) HK.out (by rw [HN.out]; simp [headN, widthN]; omega))
          go_wp2_with fail
          go_ret3
          exact ⟨by rw [HF.out]; rfl, by first | exact HX.out | exact HX.out.trans (Ext.alloc _ _)⟩
        · have hI : (28 : Int) ≤ (n : Int) := by omega
          have HL := Lib.hid (getB_long (k := 3) HK.out (by rw [HN.out]; simp only [headN, widthN]; omega) (by decide))
          obtain ⟨A1, hR1, hrun1⟩ := cut_mid (P := Try.prog) 31 4 i0 1 Try.underlying31 hi0 hz1 HR.out (by rw [List.length_map, HN.out]; omega) hnc 4 28 (4 : Int) (28 : Int) rfl rfl (by decide) (by omega)
          have hR2 : Rd w A1 (((l.drop 4).take 24).map .bool) := by simpa [List.map_drop, List.map_take] using hR1
          have hrun2 : ∀ w', (Instr.slice 31 (.slice A n c) (some (.int .i64 4)) (some (.int .i64 28)) none).run Try.prog w' = .ok (.slice A1 24 (c - 4)) w' := hrun1
          have hl2 : ((l.drop 4).take 24).length = 24 := by rw [List.length_take, List.length_drop, HN.out]; omega
          have HL2 := Lib.hid hl2
          have HR2 := Lib.hid hR2
          have hU : num ((l.drop 4).take 24) < 18446744073709551616 := Nat.lt_of_lt_of_le (num_lt _) (by rw [hl2]; decide)
          have HLN : Hid (getB l = if classN (num ((l.drop 4).take 24)) ≠ 3 then (0, 0, 4) else (num ((l.drop 4).take 24), 28, 0)) := HL
          have HD : Hid (sizeN (num ((l.drop 4).take 24)) = 28 ↔ classN (num ((l.drop 4).take 24)) = 3) := Lib.hid (sizes_differ (class_le _) (b := 3) (by decide))
          have HU := Lib.hid hU
          clear hR1 hrun1 hR2 hl2 hU HL
          go_wp2_with fail
          refine (rNumber_any _ ((l.drop 4).take 24) _ ⟨A1, 24, c - 4, rfl, HL2.out, by omega, by simp only [maxLen] at *; omega, HR2.out.ext (HX.out.trans (Ext.alloc _ _))⟩ (by rw [HL2.out]; decide)).mono ?_
          rintro e _ ⟨rfl, rfl⟩
          generalize num ((l.drop 4).take 24) = U at HLN HD HU ⊢
          go_wp2_with fail
          refine (rCode_any U _ HU.out).mono ?_
          rintro e v1 ⟨x, rfl, hbo, hx1⟩
          obtain ⟨A2, n2, c2, rfl, hn2, _, _, _⟩ := hbo
          rw [codeB_len] at hn2
          have HX2 := Lib.hid ((HX.out.trans (Ext.alloc _ _)).trans hx1)
          clear hx1
          by_cases hcl : classN U = 3
          · obtain rfl : n2 = 28 := hn2.symm.trans (HD.out.2 hcl)
            have HF : Hid (getB l = (U, 28, 0)) := Lib.hid (by rw [HLN.out, if_neg (by simpa using hcl)])
            clear hcl hn2
            go_wp2_with fail
            go_ret3
            exact ⟨by rw [HF.out]; rfl, HX2.out⟩
          · have hne : ((n2 : Int) == 28) = false := by
              rw [beq_eq_false_iff_ne]
              intro h
              exact hcl (HD.out.1 (by omega))
            have HF : Hid (getB l = (0, 0, 4)) := Lib.hid (by rw [HLN.out, if_pos hcl])
            clear hcl hn2
            go_wp2_with fail
            go_ret3
            exact ⟨by rw [HF.out]; rfl, HX2.out⟩
    · have HK := Lib.hid hk
      clear hk hk4
      by_cases hlen : n < 68
      · have hI : (n : Int) < 68 := by omega
        have HF := Lib.hid (getB_short (k := 4) HK.out (by rw [HN.out]; simp [headN, widthN]; omega))
        go_wp2_with fail
        go_ret3
        exact ⟨by rw [HF.out]; rfl, by first | exact HX.out | exact HX.out.trans (Ext.alloc _ _)⟩
      · have hI : (68 : Int) ≤ (n : Int) := by omega
        have HL := Lib.hid (getB_long (k := 4) HK.out (by rw [HN.out]; simp only [headN, widthN]; omega) (by decide))
        obtain ⟨A1, hR1, hrun1⟩ := cut_mid (P := Try.prog) 31 4 i0 1 Try.underlying31 hi0 hz1 HR.out (by rw [List.length_map, HN.out]; omega) hnc 4 68 (4 : Int) (68 : Int) rfl rfl (by decide) (by omega)
        have hR2 : Rd w A1 (((l.drop 4).take 64).map .bool) := by simpa [List.map_drop, List.map_take] using hR1
        have hrun2 : ∀ w', (Instr.slice 31 (.slice A n c) (some (.int .i64 4)) (some (.int .i64 68)) none).run Try.prog w' = .ok (.slice A1 64 (c - 4)) w' := hrun1
        have hl2 : ((l.drop 4).take 64).length = 64 := by rw [List.length_take, List.length_drop, HN.out]; omega
        have HL2 := Lib.hid hl2
        have HR2 := Lib.hid hR2
        have hU : num ((l.drop 4).take 64) < 18446744073709551616 := Nat.lt_of_lt_of_le (num_lt _) (by rw [hl2]; decide)
        have HLN : Hid (getB l = if classN (num ((l.drop 4).take 64)) ≠ 4 then (0, 0, 4) else (num ((l.drop 4).take 64), 68, 0)) := HL
        have HD : Hid (sizeN (num ((l.drop 4).take 64)) = 68 ↔ classN (num ((l.drop 4).take 64)) = 4) := Lib.hid (sizes_differ (class_le _) (b := 4) (by decide))
        have HU := Lib.hid hU
        clear hR1 hrun1 hR2 hl2 hU HL
        go_wp2_with fail
        refine (rNumber_any _ ((l.drop 4).take 64) _ ⟨A1, 64, c - 4, rfl, HL2.out, by omega, by simp only [maxLen] at *; omega, HR2.out.ext (HX.out.trans (Ext.alloc _ _))⟩ (by rw [HL2.out]; decide)).mono ?_
        rintro e _ ⟨rfl, rfl⟩
        generalize num ((l.drop 4).take 64) = U at HLN HD HU ⊢
        go_wp2_with fail
        refine (rCode_any U _ HU.out).mono ?_
        rintro e v1 ⟨x, rfl, hbo, hx1⟩
        obtain ⟨A2, n2, c2, rfl, hn2, _, _, _⟩ := hbo
        rw [codeB_len] at hn2
        have HX2 := Lib.hid ((HX.out.trans (Ext.alloc _ _)).trans hx1)
        clear hx1
        by_cases hcl : classN U = 4
        · obtain rfl : n2 = 68 := hn2.symm.trans (HD.out.2 hcl)
          have HF : Hid (getB l = (U, 68, 0)) := Lib.hid (by rw [HLN.out, if_neg (by simpa using hcl)])
          clear hcl hn2
          go_wp2_with fail
          go_ret3
          exact ⟨by rw [HF.out]; rfl, HX2.out⟩
        · have hne : ((n2 : Int) == 68) = false := by
            rw [beq_eq_false_iff_ne]
            intro h
            exact hcl (HD.out.1 (by omega))
          have HF : Hid (getB l = (0, 0, 4)) := Lib.hid (by rw [HLN.out, if_pos hcl])
          clear hcl hn2
          go_wp2_with fail
          go_ret3
          exact ⟨by rw [HF.out]; rfl, HX2.out⟩
end Go.Proofs.Ytpdebandcmhbcaa
