/- AofGrows walked. -/
import Derived.Test.YtdndeggognfcaaaAofK
import Derived.Deep.CutRange
namespace Go.Proofs.Ytdndeggognfcaaa
open Go.RowKit Crc Fil
set_option linter.unusedVariables false
set_option linter.unusedSectionVars false
set_option linter.unusedSimpArgs false
set_option maxRecDepth 100000


def Fit (xs : List ByteArray) : Prop := ∀ s ∈ xs, s.size ≤ 9223372036854775807
theorem Lw.fsure {w0 w : World} {lg : Nat} {S : LSt} (h : Lw w0 w lg S) : Calls Try.prog 34 #[.pointer (some ⟨S.g, 0, none⟩)] w fun e w' => e = .returned (.int .i64 (S.t.sure : Int)) ∧ w = w' := by
  obtain ⟨tb, rv, L, h1, _⟩ := h
  exact sure_any S.g L S.t w h1.file
set_option maxHeartbeats 20000000 in
theorem aofGrows_any (v : Value) (l : List ByteArray) (w : World) (hv : Txt w v l) (hs : ∀ s ∈ l, s.size ≤ 9223372036854775807) : Calls Try.prog 9 #[v] w fun e w' => e = .returned (.bool true) ∧ Ext w w' := by
  obtain ⟨A, n, c, rfl, hn, hnc, hcm, hr⟩ := hv
  have HN := Lib.hid hn
  have HR := Lib.hid hr
  have HSZ := Lib.hid hs
  clear hn hr hs
  go_enter Try.func9, Try.ntmps9
  go_wp2_with fail
  refine (new_own w w (Ext.refl _)).mono ?_
  rintro e w1 ⟨g, rfl, hf1, hx1⟩
  have HF1 := Lib.hid hf1
  clear hf1 hx1
  go_wp2_with fail
  refine (HF1.out.opened).mono ?_
  rintro e w2 ⟨lg, rfl, hl⟩
  rw [open_empty] at hl
  have H2 := Lib.hid hl
  clear hl
  go_wp2_with fail
  go_loopw [6, 7, 8] (fun sz nn iv wr => ∃ (k a b : Nat) (S : LSt), k ≤ n ∧ k ≤ 20 ∧ iv = .int .i64 (k : Int) ∧ sz = .int .i64 (a : Int) ∧ nn = .int .i64 (b : Int) ∧ Lw w wr lg S ∧ S.g = g ∧ S.halted = false ∧ S.sure = 0 ∧ S.t.s.size = a ∧ S.l.length = b ∧ b ≤ k ∧ a ≤ k * 308) (fun _ _ iv _ => n - (intOf iv).toNat)
  case atStart => exact ⟨0, 0, 0, _, by omega, by omega, rfl, rfl, rfl, H2.out, rfl, rfl, rfl, rfl, rfl, by omega, by omega⟩
  case round =>
    obtain ⟨k, a, b, S, hk, hk20, rfl, rfl, rfl, hlw, hsg, hsh, hss, hsa, hsb, hbk, hak⟩ := hrel
    have HL := Lib.hid hlw
    have HG := Lib.hid hsg
    have HH := Lib.hid hsh
    have HS0 := Lib.hid hss
    have HSA := Lib.hid hsa
    have HSB := Lib.hid hsb
    clear hlw hsg hsh hss hsa hsb
    by_cases hkn : k < n
    · by_cases hk2 : k < 20
      · have hkI : (k : Int) < (n : Int) := by omega
        have hkJ : (0 : Int) ≤ (k : Int) := by omega
        have hkK : (k : Int) < 20 := by omega
        obtain ⟨s, hsk⟩ : ∃ s, l[k]? = some s := ⟨_, List.getElem?_eq_getElem (by rw [HN.out]; exact hkn)⟩
        obtain ⟨ad, rfl, hcell⟩ := (HR.out.ext HL.out.ext).some_ (by rw [List.length_map, HN.out]; omega)
        have c0 := hcell k (.string s) (by rw [List.getElem?_map, hsk]; rfl)
        have hz := HSZ.out s (List.mem_of_getElem? hsk)
        obtain ⟨m, hm⟩ : ∃ m, m = min s.size 300 := ⟨_, rfl⟩
        have hmI : (if (300 : Int) < (s.size : Int) then (300 : Int) else (s.size : Int)) = (m : Int) := by split <;> omega
        have hmJ : (0 : Int) ≤ (m : Int) ∧ (m : Int) ≤ (s.size : Int) := by omega
        have hxz : (s.extract 0 m).size = m := by rw [ByteArray.size_extract]; omega
        have hm3 : m ≤ 300 := by omega
        clear hcell hsk hm
        go_upto_region 10 with fail
        refine wp_region_held_drew (S := fun wz => wz.cell? (ad.add k) = some (.string s)) (by kernel_rfl) c0 (fun hHeld => ?_)
        have hxt : Ext wr wr.drew := Ext.drew _
        generalize wr.drew = v5 at hxt hHeld ⊢
        refine' wpAnyH_take (i := 0) (oi := _) (v := _) ?hi1 ?hs1 ?hf1 ?hr1 ?hQ1 (Or.inl ⟨?hw1, ?hy1⟩) (by assumption) ?hrest1
        case hi1 => simp only [List.getElem?_toArray]; rfl
        case hs1 => kernel_rfl
        case hf1 => kernel_rfl
        case hr1 => kernel_rfl
        case hQ1 => exact fun _ _ _ h => h
        case hw1 => rfl
        case hy1 => intro w hSw; (try dsimp only at hSw); go_simp; try with_reducible rfl
        try simp only [Act.put, List.setIfInBounds_toArray, List.set_cons_zero, List.set_cons_succ]
        refine' wpAnyH_take (i := 1) (oi := _) (v := _) ?hi2 ?hs2 ?hf2 ?hr2 ?hQ2 (Or.inl ⟨?hw2, ?hy2⟩) (by assumption) ?hrest2
        case hi2 => simp only [List.getElem?_toArray]; rfl
        case hs2 => kernel_rfl
        case hf2 => kernel_rfl
        case hr2 => kernel_rfl
        case hQ2 => exact fun _ _ _ h => h
        case hw2 => rfl
        case hy2 => intro w hSw; (try dsimp only at hSw); go_simp; try with_reducible rfl
        try simp only [Act.put, List.setIfInBounds_toArray, List.set_cons_zero, List.set_cons_succ]
        refine' wpAnyH_take (i := 2) (oi := _) (v := _) ?hi3 ?hs3 ?hf3 ?hr3 ?hQ3 (Or.inl ⟨?hw3, ?hy3⟩) (by assumption) ?hrest3
        case hi3 => simp only [List.getElem?_toArray]; rfl
        case hs3 => kernel_rfl
        case hf3 => kernel_rfl
        case hr3 => kernel_rfl
        case hQ3 => exact fun _ _ _ h => h
        case hw3 => rfl
        case hy3 => intro w hSw; (try dsimp only at hSw); go_simp; try with_reducible rfl
        try simp only [Act.put, List.setIfInBounds_toArray, List.set_cons_zero, List.set_cons_succ]
        refine' wpAnyH_take (i := 3) (oi := _) (v := _) ?hi4 ?hs4 ?hf4 ?hr4 ?hQ4 (Or.inl ⟨?hw4, ?hy4⟩) (by assumption) ?hrest4
        case hi4 => simp only [List.getElem?_toArray]; rfl
        case hs4 => kernel_rfl
        case hf4 => kernel_rfl
        case hr4 => kernel_rfl
        case hQ4 => exact fun _ _ _ h => h
        case hw4 => rfl
        case hy4 => intro w hSw; (try dsimp only at hSw); go_simp; try with_reducible rfl
        try simp only [Act.put, List.setIfInBounds_toArray, List.set_cons_zero, List.set_cons_succ]
        refine' wpAnyH_take (i := 4) (oi := _) (v := _) ?hi5 ?hs5 ?hf5 ?hr5 ?hQ5 (Or.inl ⟨?hw5, ?hy5⟩) (by assumption) ?hrest5
        case hi5 => simp only [List.getElem?_toArray]; rfl
        case hs5 => kernel_rfl
        case hf5 => kernel_rfl
        case hr5 => kernel_rfl
        case hQ5 => exact fun _ _ _ h => h
        case hw5 => rfl
        case hy5 => intro w hSw; (try dsimp only at hSw); go_simp; try with_reducible rfl
        try simp only [Act.put, List.setIfInBounds_toArray, List.set_cons_zero, List.set_cons_succ]
        refine' wpAnyH_take (i := 5) (oi := _) (v := _) ?hi6 ?hs6 ?hf6 ?hr6 ?hQ6 (Or.inl ⟨?hw6, ?hy6⟩) (by assumption) ?hrest6
        case hi6 => simp only [List.getElem?_toArray]; rfl
        case hs6 => kernel_rfl
        case hf6 => kernel_rfl
        case hr6 => kernel_rfl
        case hQ6 => exact fun _ _ _ h => h
        case hw6 => rfl
        case hy6 => intro w hSw; (try dsimp only at hSw); go_simp; try with_reducible rfl
        try simp only [Act.put, List.setIfInBounds_toArray, List.set_cons_zero, List.set_cons_succ]
        refine' wpAnyH_take (i := 6) (oi := _) (v := _) ?hi7 ?hs7 ?hf7 ?hr7 ?hQ7 (Or.inl ⟨?hw7, ?hy7⟩) (by assumption) ?hrest7
        case hi7 => simp only [List.getElem?_toArray]; rfl
        case hs7 => kernel_rfl
        case hf7 => kernel_rfl
        case hr7 => kernel_rfl
        case hQ7 => exact fun _ _ _ h => h
        case hw7 => rfl
        case hy7 => intro w hSw; (try dsimp only at hSw); go_simp; try with_reducible rfl
        try simp only [Act.put, List.setIfInBounds_toArray, List.set_cons_zero, List.set_cons_succ]
        refine' wpAnyH_take (i := 7) (oi := _) (v := _) ?hi8 ?hs8 ?hf8 ?hr8 ?hQ8 (Or.inl ⟨?hw8, ?hy8⟩) (by assumption) ?hrest8
        case hi8 => simp only [List.getElem?_toArray]; rfl
        case hs8 => kernel_rfl
        case hf8 => kernel_rfl
        case hr8 => kernel_rfl
        case hQ8 => exact fun _ _ _ h => h
        case hw8 => rfl
        case hy8 => intro w hSw; (try dsimp only at hSw); go_simp; try with_reducible rfl
        try simp only [Act.put, List.setIfInBounds_toArray, List.set_cons_zero, List.set_cons_succ]
        refine' wpAnyH_take (i := 8) (oi := _) (v := _) ?hi9 ?hs9 ?hf9 ?hr9 ?hQ9 (Or.inl ⟨?hw9, ?hy9⟩) (by assumption) ?hrest9
        case hi9 => simp only [List.getElem?_toArray]; rfl
        case hs9 => kernel_rfl
        case hf9 => kernel_rfl
        case hr9 => kernel_rfl
        case hQ9 => exact fun _ _ _ h => h
        case hw9 => rfl
        case hy9 => intro w hSw; (try dsimp only at hSw); go_simp; try with_reducible rfl
        try simp only [Act.put, List.setIfInBounds_toArray, List.set_cons_zero, List.set_cons_succ]
        refine' wpAnyH_take (i := 9) (oi := _) (v := _) ?hi10 ?hs10 ?hf10 ?hr10 ?hQ10 (Or.inl ⟨?hw10, ?hy10⟩) (by assumption) ?hrest10
        case hi10 => simp only [List.getElem?_toArray]; rfl
        case hs10 => kernel_rfl
        case hf10 => kernel_rfl
        case hr10 => kernel_rfl
        case hQ10 => exact fun _ _ _ h => h
        case hw10 => rfl
        case hy10 => intro w hSw; (try dsimp only at hSw); go_simp; try with_reducible rfl
        try simp only [Act.put, List.setIfInBounds_toArray, List.set_cons_zero, List.set_cons_succ]
        refine' wpAnyH_take (i := 10) (oi := _) (v := _) ?hi11 ?hs11 ?hf11 ?hr11 ?hQ11 (Or.inl ⟨?hw11, ?hy11⟩) (by assumption) ?hrest11
        case hi11 => simp only [List.getElem?_toArray]; rfl
        case hs11 => kernel_rfl
        case hf11 => kernel_rfl
        case hr11 => kernel_rfl
        case hQ11 => exact fun _ _ _ h => h
        case hw11 => rfl
        case hy11 => intro w hSw; (try dsimp only at hSw); go_simp; try with_reducible rfl
        try simp only [Act.put, List.setIfInBounds_toArray, List.set_cons_zero, List.set_cons_succ]
        refine' wpAnyH_take (i := 11) (oi := _) (v := _) ?hi12 ?hs12 ?hf12 ?hr12 ?hQ12 (Or.inl ⟨?hw12, ?hy12⟩) (by assumption) ?hrest12
        case hi12 => simp only [List.getElem?_toArray]; rfl
        case hs12 => kernel_rfl
        case hf12 => kernel_rfl
        case hr12 => kernel_rfl
        case hQ12 => exact fun _ _ _ h => h
        case hw12 => rfl
        case hy12 => intro w hSw; (try dsimp only at hSw); go_simp; try with_reducible rfl
        try simp only [Act.put, List.setIfInBounds_toArray, List.set_cons_zero, List.set_cons_succ]
        refine wpAnyH_done (by kernel_rfl) ?_ _
        have HL5 := Lib.hid (HL.out.later hxt)
        clear hHeld hxt c0
        generalize s.extract 0 m = x at hxz ⊢
        clear hmI hmJ hz
        have hl8 : S.l.length ≤ 4294967296 := by rw [HSB.out]; omega
        by_cases hm0 : m = 0
        · have hem : x.toList.isEmpty = true := by rw [List.isEmpty_iff_length_eq_zero, size_list, hxz, hm0]
          have hg : ¬ good x.toList := by unfold good; rw [size_list, hxz]; omega
          go_wp2_with fail
          refine (HL5.out.append x (by omega) hl8 (appL_no HH.out hg)).mono ?_
          rintro e w6 ⟨rfl, hl6⟩
          have HL6 := Lib.hid hl6
          clear hl6 hg hm0
          have htx := HL6.out.text
          rw [HG.out] at htx
          go_wp2_with fail
          refine htx.mono ?_
          rintro e _ ⟨rfl, rfl⟩
          have hsz2 := HSA.out
          clear htx
          generalize S.t.s = ts at hsz2 ⊢
          go_wp2_with fail
          refine (HL6.out.records (by rw [HSB.out]; omega)).mono ?_
          rintro e w7 ⟨u7, rfl, hu7, hx7⟩
          obtain ⟨A7, c7, rfl⟩ := own_len hu7
          have HL7 := Lib.hid (HL6.out.later hx7)
          clear hu7 hx7
          rw [HSB.out]
          go_wp2_with fail
          refine (HL7.out.lsure).mono ?_
          rintro e _ ⟨rfl, rfl⟩
          rw [HS0.out]
          go_wp2_with fail
          go_roundw
          case rel => exact ⟨k + 1, a, b, S, by omega, by omega, by go_num, by go_num, by go_num, HL7.out, HG.out, HH.out, HS0.out, HSA.out, HSB.out, by omega, by omega⟩
          case measure => simp [intOf]; omega
        · have hem : x.toList.isEmpty = false := by
            rw [← Bool.not_eq_true, List.isEmpty_iff_length_eq_zero, size_list, hxz]
            exact hm0
          have hg : good x.toList := by unfold good; rw [size_list, hxz]; omega
          have hfz : (bs (frm x.toList)).size = m + 8 := by rw [bs_size, frm_len hg, size_list, hxz]
          have hap := appL_yes (S := S) (x := x) HH.out hg (by rw [HSA.out, hfz]; omega)
          go_wp2_with fail
          refine (HL5.out.append x (by omega) hl8 hap).mono ?_
          rintro e w6 ⟨rfl, hl6⟩
          have hq1 : ({ S with t := { S.t with s := S.t.s ++ bs (frm x.toList) }, l := S.l ++ [x] } : LSt).g = g := HG.out
          have hq2 : ({ S with t := { S.t with s := S.t.s ++ bs (frm x.toList) }, l := S.l ++ [x] } : LSt).halted = false := HH.out
          have hq3 : ({ S with t := { S.t with s := S.t.s ++ bs (frm x.toList) }, l := S.l ++ [x] } : LSt).sure = 0 := HS0.out
          have hq4 : ({ S with t := { S.t with s := S.t.s ++ bs (frm x.toList) }, l := S.l ++ [x] } : LSt).t.s.size = a + m + 8 := by
            show (S.t.s ++ bs (frm x.toList)).size = _
            rw [ByteArray.size_append, HSA.out, hfz]
            omega
          have hq5 : ({ S with t := { S.t with s := S.t.s ++ bs (frm x.toList) }, l := S.l ++ [x] } : LSt).l.length = b + 1 := by
            show (S.l ++ [x]).length = _
            rw [List.length_append, HSB.out]
            rfl
          generalize ({ S with t := { S.t with s := S.t.s ++ bs (frm x.toList) }, l := S.l ++ [x] } : LSt) = S6 at hl6 hq1 hq2 hq3 hq4 hq5
          have HL6 := Lib.hid hl6
          have HG6 := Lib.hid hq1
          have HH6 := Lib.hid hq2
          have HS6 := Lib.hid hq3
          have HSA6 := Lib.hid hq4
          have HSB6 := Lib.hid hq5
          clear hl6 hg hm0 hq1 hq2 hq3 hq4 hq5 hap hfz
          have htx := HL6.out.text
          rw [HG6.out] at htx
          go_wp2_with fail
          refine htx.mono ?_
          rintro e _ ⟨rfl, rfl⟩
          have hsz2 := HSA6.out
          clear htx
          generalize S6.t.s = ts at hsz2 ⊢
          go_wp2_with fail
          refine (HL6.out.records (by rw [HSB6.out]; omega)).mono ?_
          rintro e w7 ⟨u7, rfl, hu7, hx7⟩
          obtain ⟨A7, c7, rfl⟩ := own_len hu7
          have HL7 := Lib.hid (HL6.out.later hx7)
          clear hu7 hx7
          rw [HSB6.out]
          go_wp2_with fail
          refine (HL7.out.lsure).mono ?_
          rintro e _ ⟨rfl, rfl⟩
          rw [HS6.out]
          go_wp2_with fail
          go_roundw
          case rel => exact ⟨k + 1, (a + m + 8), (b + 1), S6, by omega, by omega, by go_num, by go_num, by go_num, HL7.out, HG6.out, HH6.out, HS6.out, HSA6.out, HSB6.out, by omega, by omega⟩
          case measure => simp [intOf]; omega
      · have hkK : ¬ (k : Int) < 20 := by omega
        have hkI : (k : Int) < (n : Int) := by omega
        go_wp2_with fail
        refine (HL.out.sync (by rw [HSB.out]; omega) (syncL_yes HH.out)).mono ?_
        rintro e w6 ⟨rfl, hl6⟩
        have HL6 := Lib.hid hl6
        clear hl6
        go_wp2_with fail
        refine (HL6.out.lsure).mono ?_
        rintro e _ ⟨rfl, rfl⟩
        rw [show ({ S with sure := S.l.length, t := syncT S.t } : LSt).sure = b from HSB.out]
        have hfs := HL6.out.fsure
        rw [show ({ S with sure := S.l.length, t := syncT S.t } : LSt).g = g from HG.out, show ({ S with sure := S.l.length, t := syncT S.t } : LSt).t.sure = a from HSA.out] at hfs
        go_wp2_with fail
        refine hfs.mono ?_
        rintro e _ ⟨rfl, rfl⟩
        clear hfs
        go_wp2_with fail
        refine (known_any _).mono ?_
        rintro e w9 ⟨rfl, hx9⟩
        go_wp2_with fail
        go_ret
        exact ⟨rfl, HL6.out.ext.trans hx9⟩
    · have hkI : ¬ (k : Int) < (n : Int) := by omega
      go_wp2_with fail
      refine (HL.out.sync (by rw [HSB.out]; omega) (syncL_yes HH.out)).mono ?_
      rintro e w6 ⟨rfl, hl6⟩
      have HL6 := Lib.hid hl6
      clear hl6
      go_wp2_with fail
      refine (HL6.out.lsure).mono ?_
      rintro e _ ⟨rfl, rfl⟩
      rw [show ({ S with sure := S.l.length, t := syncT S.t } : LSt).sure = b from HSB.out]
      have hfs := HL6.out.fsure
      rw [show ({ S with sure := S.l.length, t := syncT S.t } : LSt).g = g from HG.out, show ({ S with sure := S.l.length, t := syncT S.t } : LSt).t.sure = a from HSA.out] at hfs
      go_wp2_with fail
      refine hfs.mono ?_
      rintro e _ ⟨rfl, rfl⟩
      clear hfs
      go_wp2_with fail
      refine (known_any _).mono ?_
      rintro e w9 ⟨rfl, hx9⟩
      go_wp2_with fail
      go_ret
      exact ⟨rfl, HL6.out.ext.trans hx9⟩
end Go.Proofs.Ytdndeggognfcaaa
