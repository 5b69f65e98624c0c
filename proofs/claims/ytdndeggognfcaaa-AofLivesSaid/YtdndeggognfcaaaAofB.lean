/- The document's log: frames, what is read of a text. -/
import Derived.Test.YtdndeggognfcaaaAofT
import Derived.Test.YtdndeggognfcaaaAofR
namespace Go.Proofs.Ytdndeggognfcaaa
open Go.RowKit Crc Fil
set_option linter.unusedVariables false
set_option linter.unusedSectionVars false
set_option linter.unusedSimpArgs false
set_option maxRecDepth 100000


theorem frms_pre_le (l : List ByteArray) (i : Nat) : (frmsB (l.take i)).length ≤ (frmsB l).length := by
  have h : frmsB l = frmsB (l.take i) ++ frmsB (l.drop i) := by
    unfold frmsB
    rw [← frms_app, ← List.map_append, List.take_append_drop]
  rw [h, List.length_append]
  omega
set_option maxHeartbeats 4000000 in
theorem rFrames_any (v : Value) (l : List ByteArray) (w : World) (hv : Txt w v l) (hl : (frmsB l).length ≤ 1000000000) (hs : ∀ x ∈ l, x.size ≤ 9223372036854775807) :
    Calls Try.prog 49 #[v] w fun e w' => e = .returned (.string (bs (frmsB l))) ∧ Ext w w' := by
  obtain ⟨A, n, c, rfl, hn, hnc, hcm, hr⟩ := hv
  have HN := Lib.hid hn
  have HR := Lib.hid hr
  have HS := Lib.hid hs
  have HL := Lib.hid hl
  clear hr hs hl
  go_enter Try.func49, Try.ntmps49
  go_wp2_with fail
  go_loopw [3, 4] (fun o iv wr => ∃ k : Nat, k ≤ n ∧ iv = .int .i64 (k : Int) ∧ o = .string (bs (frmsB (l.take k))) ∧ Ext w wr) (fun _ iv _ => n - (intOf iv).toNat)
  case atStart => exact ⟨0, by omega, rfl, rfl, Ext.refl _⟩
  case round =>
    obtain ⟨k, hk, rfl, rfl, hx⟩ := hrel
    have HX := Lib.hid hx
    by_cases hkl : k < n
    · have hkI : (k : Int) < (n : Int) := by omega
      have hkJ : (0 : Int) ≤ (k : Int) := by omega
      obtain ⟨s, hsk⟩ : ∃ s, l[k]? = some s := ⟨_, List.getElem?_eq_getElem (by omega)⟩
      obtain ⟨ad, rfl, hcell⟩ := (HR.out.ext HX.out).some_ (by rw [List.length_map]; omega)
      have c0 := hcell k (.string s) (by rw [List.getElem?_map, hsk]; rfl)
      have hsz := HS.out s (List.mem_of_getElem? hsk)
      have HSK := Lib.hid hsk
      clear hcell hsk hx
      go_wp2_with fail
      refine (rFrame_any s wr hsz).mono ?_
      rintro e w1 ⟨rfl, hx1⟩
      have HX1 := Lib.hid (HX.out.trans hx1)
      have hfs := frms_snoc HSK.out
      have hz1 : (bs (frmsB (l.take k))).size + (bs (frm s.toList)).size ≤ 1000000000 := by
        have h1 := frms_pre_le l (k + 1)
        rw [hfs, List.length_append] at h1
        rw [bs_size, bs_size]
        have := HL.out
        omega
      have HAP : Hid (bs (frmsB (l.take k)) ++ bs (frm s.toList) = bs (frmsB (l.take (k + 1)))) := Lib.hid (by rw [bs_app, hfs])
      clear hfs c0 hx1
      generalize bs (frm s.toList) = fr at hz1 HAP ⊢
      generalize bs (frmsB (l.take k)) = fo at hz1 HAP ⊢
      go_wp2_with fail
      go_roundw
      case rel => exact ⟨k + 1, by omega, by go_num, by rw [HAP.out], HX1.out⟩
      case measure => simp [intOf]; omega
    · obtain rfl : k = n := by omega
      rw [List.take_of_length_le (show l.length ≤ k by omega)]
      go_wp2_with fail
      go_ret
      exact ⟨rfl, HX.out⟩
theorem num4_cons {l : List UInt8} (h : 4 ≤ l.length) : num4 l = ((l[0].toNat * 256 + l[1].toNat) * 256 + l[2].toNat) * 256 + l[3].toNat := by
  match l, h with
  | a :: b :: c :: d :: t, _ => rfl
theorem byte_at (s : ByteArray) (i : Nat) (h : i < s.size) : s[i] = s.toList[i]'(by rw [size_list]; exact h) := by
  have h1 : s.toList[i]? = some (s[i]) := by
    rw [Lib.toList_data, Array.getElem?_toList]
    exact Array.getElem?_eq_getElem _
  exact ((List.getElem?_eq_some_iff.1 h1).2).symm
theorem ext_list (s : ByteArray) (a b : Nat) : (s.extract a b).toList = (s.toList.take b).drop a := by
  rw [Lib.toList_data, Lib.toList_data, List.drop_take]
  simp
theorem mid_text (s : ByteArray) (a b : Nat) : (s.extract a (a + b)).toList = (s.toList.drop a).take b := by
  rw [ext_list, List.drop_take, Nat.add_sub_cancel_left]
theorem tail_text (s : ByteArray) (a : Nat) : (s.extract a s.size).toList = s.toList.drop a := by
  rw [ext_list, List.take_of_length_le (by rw [size_list]; exact Nat.le_refl _)]
theorem fst_short {l : List UInt8} (h : l.length < 8) : fstL l = none := by
  unfold fstL
  rw [if_neg]
  intro hh
  omega
theorem fst_bad {l : List UInt8} (h : num4 l < 1 ∨ 65536 < num4 l ∨ l.length < num4 l + 8) : fstL l = none := by
  unfold fstL
  rw [if_neg]
  intro hh
  omega
set_option maxHeartbeats 8000000 in
theorem rRead_any (s : ByteArray) (w : World) (hs : s.size ≤ 16777216) :
    Calls Try.prog 47 #[.string s] w fun e w' => ∃ u, e = .returned u ∧ Own w w' u ((readL s.toList).map bs) ∧ Ext w w' := by
  obtain ⟨R, hR⟩ : ∃ R, readL s.toList = R := ⟨_, rfl⟩
  have hrg := read_good s.toList
  rw [hR] at hrg ⊢
  have hrl : 8 * R.length ≤ s.size := by
    obtain ⟨h1, r, h2, _⟩ := hrg
    have := congrArg List.length h2
    rw [List.length_append, size_list] at this
    have h3 := frms_len8 R h1
    omega
  have hrl2 : R.length ≤ 2097152 := by omega
  have HR := Lib.hid hR
  clear hrg hR
  go_enter Try.func47, Try.ntmps47
  go_wp2_with fail
  go_loopw [0, 3] (fun sv ov wr => ∃ (k : Nat) (cur : ByteArray), k ≤ R.length ∧ sv = .string cur ∧ cur.size ≤ 16777216 ∧ readL cur.toList = R.drop k ∧ Own w wr ov ((R.take k).map bs) ∧ Ext w wr) (fun sv _ _ => match sv with | .string c => c.size | _ => 0)
  case atStart => exact ⟨0, s, by omega, rfl, hs, HR.out, Own.nil w w, Ext.refl _⟩
  case round =>
    obtain ⟨k, cur, hk, rfl, hz, hrd, ho, hx⟩ := hrel
    have HRD := Lib.hid hrd
    have HO := Lib.hid ho
    have HX := Lib.hid hx
    clear hrd ho hx hs
    have hcl := size_list cur
    by_cases h8 : cur.size < 8
    · have hfst := fst_short (l := cur.toList) (by omega)
      have h8I : (cur.size : Int) < 8 := by omega
      clear hcl
      have hkR : k = R.length := by
        have h1 := HRD.out
        rw [read_none hfst] at h1
        have := congrArg List.length h1
        simp at this
        omega
      subst hkR
      go_wp2_with fail
      go_ret
      refine ⟨_, rfl, ?_, HX.out⟩
      have := HO.out
      rwa [List.take_length] at this
    · have h8I : (8 : Int) ≤ (cur.size : Int) := by omega
      have h8N : ¬ (cur.size : Int) < 8 := by omega
      have hi0 : 0 < cur.size := by omega
      have hi1 : 1 < cur.size := by omega
      have hi2 : 2 < cur.size := by omega
      have hi3 : 3 < cur.size := by omega
      have hj1 : (1 : Int) < (cur.size : Int) := by omega
      have hj2 : (2 : Int) < (cur.size : Int) := by omega
      have hj3 : (3 : Int) < (cur.size : Int) := by omega
      have hb := num4_cons (l := cur.toList) (by omega)
      rw [← byte_at cur 0 hi0, ← byte_at cur 1 hi1, ← byte_at cur 2 hi2, ← byte_at cur 3 hi3] at hb
      have hl0 := cur[0].toNat_lt
      have hl1 := cur[1].toNat_lt
      have hl2 := cur[2].toNat_lt
      have hl3 := cur[3].toNat_lt
      obtain ⟨N, hN⟩ : ∃ N, num4 cur.toList = N := ⟨_, rfl⟩
      rw [hN] at hb
      have hv0 : IntKind.i64.wrap (cur[0].toNat : Int) = (cur[0].toNat : Int) := IntWalk.i64_in _ (by omega)
      have hv1 : IntKind.i64.wrap (cur[1].toNat : Int) = (cur[1].toNat : Int) := IntWalk.i64_in _ (by omega)
      have hv2 : IntKind.i64.wrap (cur[2].toNat : Int) = (cur[2].toNat : Int) := IntWalk.i64_in _ (by omega)
      have hv3 : IntKind.i64.wrap (cur[3].toNat : Int) = (cur[3].toNat : Int) := IntWalk.i64_in _ (by omega)
      obtain ⟨m1, e1⟩ : ∃ m, m = cur[0].toNat * 256 := ⟨_, rfl⟩
      have hm1 : IntKind.i64.wrap ((cur[0].toNat : Int) * 256) = (m1 : Int) := by rw [IntWalk.i64_in _ (by omega)]; omega
      obtain ⟨m2, e2⟩ : ∃ m, m = m1 + cur[1].toNat := ⟨_, rfl⟩
      have hm2 : IntKind.i64.wrap ((m1 : Int) + (cur[1].toNat : Int)) = (m2 : Int) := by rw [IntWalk.i64_in _ (by omega)]; omega
      obtain ⟨m3, e3⟩ : ∃ m, m = m2 * 256 := ⟨_, rfl⟩
      have hm3 : IntKind.i64.wrap ((m2 : Int) * 256) = (m3 : Int) := by rw [IntWalk.i64_in _ (by omega)]; omega
      obtain ⟨m4, e4⟩ : ∃ m, m = m3 + cur[2].toNat := ⟨_, rfl⟩
      have hm4 : IntKind.i64.wrap ((m3 : Int) + (cur[2].toNat : Int)) = (m4 : Int) := by rw [IntWalk.i64_in _ (by omega)]; omega
      obtain ⟨m5, e5⟩ : ∃ m, m = m4 * 256 := ⟨_, rfl⟩
      have hm5 : IntKind.i64.wrap ((m4 : Int) * 256) = (m5 : Int) := by rw [IntWalk.i64_in _ (by omega)]; omega
      have hm6 : IntKind.i64.wrap ((m5 : Int) + (cur[3].toNat : Int)) = (N : Int) := by rw [IntWalk.i64_in _ (by omega)]; omega
      have hNb : N < 4294967296 := by omega
      have HNN := Lib.hid hN
      clear e1 e2 e3 e4 e5 hb hl0 hl1 hl2 hl3 hN
      go_wp2_with fail
      refine wp_region_held_drew (S := fun _ => True) (by kernel_rfl) trivial (fun hHeld => ?_)
      have hxt : Ext wr wr.drew := Ext.drew _
      generalize wr.drew = v5 at hxt hHeld ⊢
      refine' wpAnyH_take (i := 0) (oi := _) (v := _) ?hi2 ?hs2 ?hf2 ?hr2 ?hQ2 (Or.inl ⟨?hw2, ?hy2⟩) (by assumption) ?hrest2
      case hi2 => simp only [List.getElem?_toArray]; rfl
      case hs2 => kernel_rfl
      case hf2 => kernel_rfl
      case hr2 => kernel_rfl
      case hQ2 => exact fun _ _ _ h => h
      case hw2 => rfl
      case hy2 => intro w hSw; (try dsimp only at hSw); go_simp; try with_reducible rfl
      try simp only [Act.put, List.setIfInBounds_toArray, List.set_cons_zero, List.set_cons_succ]
      refine' wpAnyH_take (i := 1) (oi := _) (v := _) ?hi3 ?hs3 ?hf3 ?hr3 ?hQ3 (Or.inl ⟨?hw3, ?hy3⟩) (by assumption) ?hrest3
      case hi3 => simp only [List.getElem?_toArray]; rfl
      case hs3 => kernel_rfl
      case hf3 => kernel_rfl
      case hr3 => kernel_rfl
      case hQ3 => exact fun _ _ _ h => h
      case hw3 => rfl
      case hy3 => intro w hSw; (try dsimp only at hSw); go_simp; try with_reducible rfl
      try simp only [Act.put, List.setIfInBounds_toArray, List.set_cons_zero, List.set_cons_succ]
      refine' wpAnyH_take (i := 2) (oi := _) (v := _) ?hi4 ?hs4 ?hf4 ?hr4 ?hQ4 (Or.inl ⟨?hw4, ?hy4⟩) (by assumption) ?hrest4
      case hi4 => simp only [List.getElem?_toArray]; rfl
      case hs4 => kernel_rfl
      case hf4 => kernel_rfl
      case hr4 => kernel_rfl
      case hQ4 => exact fun _ _ _ h => h
      case hw4 => rfl
      case hy4 => intro w hSw; (try dsimp only at hSw); go_simp; try with_reducible rfl
      try simp only [Act.put, List.setIfInBounds_toArray, List.set_cons_zero, List.set_cons_succ]
      refine' wpAnyH_take (i := 3) (oi := _) (v := _) ?hi5 ?hs5 ?hf5 ?hr5 ?hQ5 (Or.inl ⟨?hw5, ?hy5⟩) (by assumption) ?hrest5
      case hi5 => simp only [List.getElem?_toArray]; rfl
      case hs5 => kernel_rfl
      case hf5 => kernel_rfl
      case hr5 => kernel_rfl
      case hQ5 => exact fun _ _ _ h => h
      case hw5 => rfl
      case hy5 => intro w hSw; (try dsimp only at hSw); go_simp; try with_reducible rfl
      try simp only [Act.put, List.setIfInBounds_toArray, List.set_cons_zero, List.set_cons_succ]
      refine' wpAnyH_take (i := 4) (oi := _) (v := _) ?hi6 ?hs6 ?hf6 ?hr6 ?hQ6 (Or.inl ⟨?hw6, ?hy6⟩) (by assumption) ?hrest6
      case hi6 => simp only [List.getElem?_toArray]; rfl
      case hs6 => kernel_rfl
      case hf6 => kernel_rfl
      case hr6 => kernel_rfl
      case hQ6 => exact fun _ _ _ h => h
      case hw6 => rfl
      case hy6 => intro w hSw; (try dsimp only at hSw); go_simp; try with_reducible rfl
      try simp only [Act.put, List.setIfInBounds_toArray, List.set_cons_zero, List.set_cons_succ]
      refine' wpAnyH_take (i := 5) (oi := _) (v := _) ?hi7 ?hs7 ?hf7 ?hr7 ?hQ7 (Or.inl ⟨?hw7, ?hy7⟩) (by assumption) ?hrest7
      case hi7 => simp only [List.getElem?_toArray]; rfl
      case hs7 => kernel_rfl
      case hf7 => kernel_rfl
      case hr7 => kernel_rfl
      case hQ7 => exact fun _ _ _ h => h
      case hw7 => rfl
      case hy7 => intro w hSw; (try dsimp only at hSw); go_simp; try with_reducible rfl
      try simp only [Act.put, List.setIfInBounds_toArray, List.set_cons_zero, List.set_cons_succ]
      refine' wpAnyH_take (i := 6) (oi := _) (v := _) ?hi8 ?hs8 ?hf8 ?hr8 ?hQ8 (Or.inl ⟨?hw8, ?hy8⟩) (by assumption) ?hrest8
      case hi8 => simp only [List.getElem?_toArray]; rfl
      case hs8 => kernel_rfl
      case hf8 => kernel_rfl
      case hr8 => kernel_rfl
      case hQ8 => exact fun _ _ _ h => h
      case hw8 => rfl
      case hy8 => intro w hSw; (try dsimp only at hSw); go_simp; try with_reducible rfl
      try simp only [Act.put, List.setIfInBounds_toArray, List.set_cons_zero, List.set_cons_succ]
      refine' wpAnyH_take (i := 7) (oi := _) (v := _) ?hi9 ?hs9 ?hf9 ?hr9 ?hQ9 (Or.inl ⟨?hw9, ?hy9⟩) (by assumption) ?hrest9
      case hi9 => simp only [List.getElem?_toArray]; rfl
      case hs9 => kernel_rfl
      case hf9 => kernel_rfl
      case hr9 => kernel_rfl
      case hQ9 => exact fun _ _ _ h => h
      case hw9 => rfl
      case hy9 => intro w hSw; (try dsimp only at hSw); go_simp; try with_reducible rfl
      try simp only [Act.put, List.setIfInBounds_toArray, List.set_cons_zero, List.set_cons_succ]
      refine' wpAnyH_take (i := 8) (oi := _) (v := _) ?hi10 ?hs10 ?hf10 ?hr10 ?hQ10 (Or.inl ⟨?hw10, ?hy10⟩) (by assumption) ?hrest10
      case hi10 => simp only [List.getElem?_toArray]; rfl
      case hs10 => kernel_rfl
      case hf10 => kernel_rfl
      case hr10 => kernel_rfl
      case hQ10 => exact fun _ _ _ h => h
      case hw10 => rfl
      case hy10 => intro w hSw; (try dsimp only at hSw); go_simp; try with_reducible rfl
      try simp only [Act.put, List.setIfInBounds_toArray, List.set_cons_zero, List.set_cons_succ]
      refine' wpAnyH_take (i := 9) (oi := _) (v := _) ?hi11 ?hs11 ?hf11 ?hr11 ?hQ11 (Or.inl ⟨?hw11, ?hy11⟩) (by assumption) ?hrest11
      case hi11 => simp only [List.getElem?_toArray]; rfl
      case hs11 => kernel_rfl
      case hf11 => kernel_rfl
      case hr11 => kernel_rfl
      case hQ11 => exact fun _ _ _ h => h
      case hw11 => rfl
      case hy11 => intro w hSw; (try dsimp only at hSw); go_simp; try with_reducible rfl
      try simp only [Act.put, List.setIfInBounds_toArray, List.set_cons_zero, List.set_cons_succ]
      refine' wpAnyH_take (i := 10) (oi := _) (v := _) ?hi12 ?hs12 ?hf12 ?hr12 ?hQ12 (Or.inl ⟨?hw12, ?hy12⟩) (by assumption) ?hrest12
      case hi12 => simp only [List.getElem?_toArray]; rfl
      case hs12 => kernel_rfl
      case hf12 => kernel_rfl
      case hr12 => kernel_rfl
      case hQ12 => exact fun _ _ _ h => h
      case hw12 => rfl
      case hy12 => intro w hSw; (try dsimp only at hSw); go_simp; try with_reducible rfl
      try simp only [Act.put, List.setIfInBounds_toArray, List.set_cons_zero, List.set_cons_succ]
      refine' wpAnyH_take (i := 11) (oi := _) (v := _) ?hi13 ?hs13 ?hf13 ?hr13 ?hQ13 (Or.inl ⟨?hw13, ?hy13⟩) (by assumption) ?hrest13
      case hi13 => simp only [List.getElem?_toArray]; rfl
      case hs13 => kernel_rfl
      case hf13 => kernel_rfl
      case hr13 => kernel_rfl
      case hQ13 => exact fun _ _ _ h => h
      case hw13 => rfl
      case hy13 => intro w hSw; (try dsimp only at hSw); go_simp; try with_reducible rfl
      try simp only [Act.put, List.setIfInBounds_toArray, List.set_cons_zero, List.set_cons_succ]
      refine' wpAnyH_take (i := 12) (oi := _) (v := _) ?hi14 ?hs14 ?hf14 ?hr14 ?hQ14 (Or.inl ⟨?hw14, ?hy14⟩) (by assumption) ?hrest14
      case hi14 => simp only [List.getElem?_toArray]; rfl
      case hs14 => kernel_rfl
      case hf14 => kernel_rfl
      case hr14 => kernel_rfl
      case hQ14 => exact fun _ _ _ h => h
      case hw14 => rfl
      case hy14 => intro w hSw; (try dsimp only at hSw); go_simp; try with_reducible rfl
      try simp only [Act.put, List.setIfInBounds_toArray, List.set_cons_zero, List.set_cons_succ]
      refine' wpAnyH_take (i := 13) (oi := _) (v := _) ?hi15 ?hs15 ?hf15 ?hr15 ?hQ15 (Or.inl ⟨?hw15, ?hy15⟩) (by assumption) ?hrest15
      case hi15 => simp only [List.getElem?_toArray]; rfl
      case hs15 => kernel_rfl
      case hf15 => kernel_rfl
      case hr15 => kernel_rfl
      case hQ15 => exact fun _ _ _ h => h
      case hw15 => rfl
      case hy15 => intro w hSw; (try dsimp only at hSw); go_simp; try with_reducible rfl
      try simp only [Act.put, List.setIfInBounds_toArray, List.set_cons_zero, List.set_cons_succ]
      refine' wpAnyH_take (i := 14) (oi := _) (v := _) ?hi16 ?hs16 ?hf16 ?hr16 ?hQ16 (Or.inl ⟨?hw16, ?hy16⟩) (by assumption) ?hrest16
      case hi16 => simp only [List.getElem?_toArray]; rfl
      case hs16 => kernel_rfl
      case hf16 => kernel_rfl
      case hr16 => kernel_rfl
      case hQ16 => exact fun _ _ _ h => h
      case hw16 => rfl
      case hy16 => intro w hSw; (try dsimp only at hSw); go_simp; try with_reducible rfl
      try simp only [Act.put, List.setIfInBounds_toArray, List.set_cons_zero, List.set_cons_succ]
      refine' wpAnyH_take (i := 15) (oi := _) (v := _) ?hi17 ?hs17 ?hf17 ?hr17 ?hQ17 (Or.inl ⟨?hw17, ?hy17⟩) (by assumption) ?hrest17
      case hi17 => simp only [List.getElem?_toArray]; rfl
      case hs17 => kernel_rfl
      case hf17 => kernel_rfl
      case hr17 => kernel_rfl
      case hQ17 => exact fun _ _ _ h => h
      case hw17 => rfl
      case hy17 => intro w hSw; (try dsimp only at hSw); go_simp; try with_reducible rfl
      try simp only [Act.put, List.setIfInBounds_toArray, List.set_cons_zero, List.set_cons_succ]
      refine' wpAnyH_take (i := 16) (oi := _) (v := _) ?hi18 ?hs18 ?hf18 ?hr18 ?hQ18 (Or.inl ⟨?hw18, ?hy18⟩) (by assumption) ?hrest18
      case hi18 => simp only [List.getElem?_toArray]; rfl
      case hs18 => kernel_rfl
      case hf18 => kernel_rfl
      case hr18 => kernel_rfl
      case hQ18 => exact fun _ _ _ h => h
      case hw18 => rfl
      case hy18 => intro w hSw; (try dsimp only at hSw); go_simp; try with_reducible rfl
      try simp only [Act.put, List.setIfInBounds_toArray, List.set_cons_zero, List.set_cons_succ]
      refine' wpAnyH_take (i := 17) (oi := _) (v := _) ?hi19 ?hs19 ?hf19 ?hr19 ?hQ19 (Or.inl ⟨?hw19, ?hy19⟩) (by assumption) ?hrest19
      case hi19 => simp only [List.getElem?_toArray]; rfl
      case hs19 => kernel_rfl
      case hf19 => kernel_rfl
      case hr19 => kernel_rfl
      case hQ19 => exact fun _ _ _ h => h
      case hw19 => rfl
      case hy19 => intro w hSw; (try dsimp only at hSw); go_simp; try with_reducible rfl
      try simp only [Act.put, List.setIfInBounds_toArray, List.set_cons_zero, List.set_cons_succ]
      refine' wpAnyH_take (i := 18) (oi := _) (v := _) ?hi20 ?hs20 ?hf20 ?hr20 ?hQ20 (Or.inl ⟨?hw20, ?hy20⟩) (by assumption) ?hrest20
      case hi20 => simp only [List.getElem?_toArray]; rfl
      case hs20 => kernel_rfl
      case hf20 => kernel_rfl
      case hr20 => kernel_rfl
      case hQ20 => exact fun _ _ _ h => h
      case hw20 => rfl
      case hy20 => intro w hSw; (try dsimp only at hSw); go_simp; try with_reducible rfl
      try simp only [Act.put, List.setIfInBounds_toArray, List.set_cons_zero, List.set_cons_succ]
      refine wpAnyH_done (by kernel_rfl) ?_ _
      have HX5 := Lib.hid (HX.out.trans hxt)
      have HO5 := Lib.hid (HO.out.ext hxt)
      clear hv0 hv1 hv2 hv3 hm1 hm2 hm3 hm4 hm5 hm6 hxt hHeld HX HO
      have HX := HX5
      have HO := HO5
      clear HX5 HO5
      by_cases hn1 : N < 1
      · have hfst := fst_bad (l := cur.toList) (.inl (by rw [HNN.out]; exact hn1))
        have hn1I : (N : Int) < 1 := by omega
        have hkR : k = R.length := by
          have h1 := HRD.out
          rw [read_none hfst] at h1
          have := congrArg List.length h1
          simp at this
          omega
        subst hkR
        go_wp2_with fail
        go_ret
        refine ⟨_, rfl, ?_, HX.out⟩
        have := HO.out
        rwa [List.take_length] at this
      have hn1I : ¬ (N : Int) < 1 := by omega
      by_cases hn2 : 65536 < N
      · have hfst := fst_bad (l := cur.toList) (.inr (.inl (by rw [HNN.out]; exact hn2)))
        have hn2I : (65536 : Int) < (N : Int) := by omega
        have hkR : k = R.length := by
          have h1 := HRD.out
          rw [read_none hfst] at h1
          have := congrArg List.length h1
          simp at this
          omega
        subst hkR
        go_wp2_with fail
        go_ret
        refine ⟨_, rfl, ?_, HX.out⟩
        have := HO.out
        rwa [List.take_length] at this
      have hn2I : ¬ (65536 : Int) < (N : Int) := by omega
      by_cases hn3 : cur.size < N + 8
      · have hfst := fst_bad (l := cur.toList) (.inr (.inr (by rw [HNN.out, hcl]; exact hn3)))
        have hn3I : (cur.size : Int) < (N : Int) + 8 := by omega
        have hkR : k = R.length := by
          have h1 := HRD.out
          rw [read_none hfst] at h1
          have := congrArg List.length h1
          simp at this
          omega
        subst hkR
        go_wp2_with fail
        go_ret
        refine ⟨_, rfl, ?_, HX.out⟩
        have := HO.out
        rwa [List.take_length] at this
      have hn3I : ¬ (cur.size : Int) < (N : Int) + 8 := by omega
      have hfe := fst_eq (l := cur.toList) (by rw [HNN.out]; omega) (by rw [HNN.out, hcl]; omega)
      rw [HNN.out] at hfe
      have HFE := Lib.hid hfe
      have HCL := Lib.hid hcl
      have hs1 : (4 : Int) ≤ 4 + (N : Int) ∧ (4 : Int) + (N : Int) ≤ (cur.size : Int) := by omega
      have hs2 : ((4 : Int) + (N : Int)).toNat = 4 + N := by omega
      have hs4 : 4 + N ≤ cur.size := by omega
      have hs3 : (0 : Int) ≤ 4 + (N : Int) := by omega
      have hw4 : IntKind.i64.wrap (4 + (N : Int)) = 4 + (N : Int) := IntWalk.i64_in _ (by omega)
      have hw8 : IntKind.i64.wrap ((N : Int) + 8) = (N : Int) + 8 := IntWalk.i64_in _ (by omega)
      have hs5 : ((N : Int) + 8).toNat = N + 8 := by omega
      have hs6 : (0 : Int) ≤ (N : Int) + 8 ∧ (N : Int) + 8 ≤ (cur.size : Int) := by omega
      clear hfe hcl
      have hmx := mid_text cur 4 N
      have hpx : (cur.extract 0 (N + 8)).toList = cur.toList.take (N + 8) := by rw [extract_cut, cutS_list]
      have hxz : (cur.extract 4 (4 + N)).size = N := by rw [ByteArray.size_extract]; omega
      have htx := tail_text cur (N + 8)
      have htz : (cur.extract (N + 8) cur.size).size = cur.size - (N + 8) := by rw [ByteArray.size_extract]; omega
      have HMX := Lib.hid (And.intro hmx (And.intro hpx (And.intro hxz (And.intro htx htz))))
      clear hmx hpx hxz htx htz
      go_upto_region 7 with fail
      generalize hgx : cur.extract 4 (4 + N) = x at HMX ⊢
      refine wp_region_held_drew (S := fun _ => True) (by kernel_rfl) trivial (fun hHeld => ?_)
      have hxt : Ext v5 v5.drew := Ext.drew _
      generalize v5.drew = v6 at hxt hHeld ⊢
      have hs7 : (N : Int) + 8 ≤ (cur.size : Int) := by omega
      have hs8 : (0 : Int) ≤ (N : Int) + 8 := by omega
      refine' wpAnyH_take (i := 0) (oi := _) (v := _) ?hi25 ?hs25 ?hf25 ?hr25 ?hQ25 (Or.inl ⟨?hw25, ?hy25⟩) (by assumption) ?hrest25
      case hi25 => simp only [List.getElem?_toArray]; rfl
      case hs25 => kernel_rfl
      case hf25 => kernel_rfl
      case hr25 => kernel_rfl
      case hQ25 => exact fun _ _ _ h => h
      case hw25 => rfl
      case hy25 => intro w hSw; (try dsimp only at hSw); go_simp; try with_reducible rfl
      try simp only [Act.put, List.setIfInBounds_toArray, List.set_cons_zero, List.set_cons_succ]
      refine' wpAnyH_take (i := 2) (oi := _) (v := _) ?hi26 ?hs26 ?hf26 ?hr26 ?hQ26 (Or.inl ⟨?hw26, ?hy26⟩) (by assumption) ?hrest26
      case hi26 => simp only [List.getElem?_toArray]; rfl
      case hs26 => kernel_rfl
      case hf26 => kernel_rfl
      case hr26 => kernel_rfl
      case hQ26 => exact fun _ _ _ h => h
      case hw26 => rfl
      case hy26 => intro w hSw; (try dsimp only at hSw); go_simp; try with_reducible rfl
      try simp only [Act.put, List.setIfInBounds_toArray, List.set_cons_zero, List.set_cons_succ]
      refine' wpAnyH_take (i := 3) (oi := _) (v := _) ?hi27 ?hs27 ?hf27 ?hr27 ?hQ27 (Or.inl ⟨?hw27, ?hy27⟩) (by assumption) ?hrest27
      case hi27 => simp only [List.getElem?_toArray]; rfl
      case hs27 => kernel_rfl
      case hf27 => kernel_rfl
      case hr27 => kernel_rfl
      case hQ27 => exact fun _ _ _ h => h
      case hw27 => rfl
      case hy27 => intro w hSw; (try dsimp only at hSw); go_simp; try with_reducible rfl
      try simp only [Act.put, List.setIfInBounds_toArray, List.set_cons_zero, List.set_cons_succ]
      refine' wpAnyH_take (i := 4) (oi := _) (v := _) ?hi28 ?hs28 ?hf28 ?hr28 ?hQ28 (Or.inl ⟨?hw28, ?hy28⟩) (by assumption) ?hrest28
      case hi28 => simp only [List.getElem?_toArray]; rfl
      case hs28 => kernel_rfl
      case hf28 => kernel_rfl
      case hr28 => kernel_rfl
      case hQ28 => exact fun _ _ _ h => h
      case hw28 => rfl
      case hy28 => intro w hSw; (try dsimp only at hSw); go_simp; try with_reducible rfl
      try simp only [Act.put, List.setIfInBounds_toArray, List.set_cons_zero, List.set_cons_succ]
      refine' wpAnyH_take (i := 5) (oi := _) (v := _) ?hi29 ?hs29 ?hf29 ?hr29 ?hQ29 (Or.inl ⟨?hw29, ?hy29⟩) (by assumption) ?hrest29
      case hi29 => simp only [List.getElem?_toArray]; rfl
      case hs29 => kernel_rfl
      case hf29 => kernel_rfl
      case hr29 => kernel_rfl
      case hQ29 => exact fun _ _ _ h => h
      case hw29 => rfl
      case hy29 => intro w hSw; (try dsimp only at hSw); go_simp; try with_reducible rfl
      try simp only [Act.put, List.setIfInBounds_toArray, List.set_cons_zero, List.set_cons_succ]
      refine wpAnyH_ready (rs := [1]) (by kernel_rfl) (by simp) ?_
      refine' AllReadyH.cons (o := _) ?ho30 (fun K hK => ?hstep30) AllReadyH.nil
      case ho30 => simp only [List.getElem?_toArray]; rfl
      go_simp
      refine (rFrame_any x v6 (by have := HMX.out.2.2.1; omega)).mono ?_
      rintro e v7 ⟨rfl, hx7⟩
      have HX7 := Lib.hid (HX.out.trans (hxt.trans hx7))
      have HO7 := Lib.hid (HO.out.ext (hxt.trans hx7))
      refine hK.out _ _ (trivial) (fun hHeld => ?_)
      clear hK K
      try simp only [Act.put, List.setIfInBounds_toArray, List.set_cons_zero, List.set_cons_succ]
      clear hxt hx7 hHeld
      by_cases hcmp : frm x.toList = cur.toList.take (N + 8)
      · have hB : ((bs (frm x.toList)).toList == (cur.extract 0 (N + 8)).toList) = true := by rw [bs_list, HMX.out.2.1, hcmp]; simp
        have hfst : fstL cur.toList = some x.toList := by rw [HFE.out, ← HMX.out.1, if_pos hcmp]
        have hRk : R.drop k = x.toList :: readL (cur.toList.drop (N + 8)) := by
          rw [← HRD.out, read_some hfst, size_list, HMX.out.2.2.1]
        have hkl : k < R.length := by
          have := congrArg List.length hRk
          simp at this
          omega
        have hxk : R[k]? = some x.toList := by
          have := congrArg (fun l => l[0]?) hRk
          simpa using this
        have hdk : R.drop (k + 1) = readL (cur.toList.drop (N + 8)) := by
          have := congrArg (fun l => l.drop 1) hRk
          simpa [List.drop_drop] using this
        have hmk : (R.take (k + 1)).map bs = (R.take k).map bs ++ [x] := by rw [List.take_add_one, hxk, List.map_append]; simp [bs_of]
        have HMK := Lib.hid hmk
        have HDK := Lib.hid hdk
        have hll : ((R.take k).map bs).length ≤ 4294967296 := by rw [List.length_map, List.length_take]; omega
        clear hmk hdk hxk hRk hfst hcmp
        generalize bs (frm x.toList) = fx at hB ⊢
        refine' wpAnyH_take (i := 6) (oi := _) (v := _) ?hi32 ?hs32 ?hf32 ?hr32 ?hQ32 (Or.inl ⟨?hw32, ?hy32⟩) (by assumption) ?hrest32
        case hi32 => simp only [List.getElem?_toArray]; rfl
        case hs32 => kernel_rfl
        case hf32 => kernel_rfl
        case hr32 => kernel_rfl
        case hQ32 => exact fun _ _ _ h => h
        case hw32 => rfl
        case hy32 => intro w hSw; (try dsimp only at hSw); go_simp; try with_reducible rfl
        try simp only [Act.put, List.setIfInBounds_toArray, List.set_cons_zero, List.set_cons_succ]
        refine wpAnyH_done (by kernel_rfl) ?_ _
        clear hB
        go_wp2_with (first
          | (at_builtin
             refine app_strs _ rfl (.tmp 53) (.tmp 55) rfl w _ ((R.take k).map bs) rfl (HO7.out.ext (Ext.alloc v7 _)) (some ⟨v7.heap.size, 0, none⟩) 1 1 [x] rfl rfl (by exact Rd.new v7 #[_] 9) (by simp only [List.length_singleton]; omega) (HX7.out.trans (Ext.alloc v7 _)) ?_
             intro v8 w8 hown hext
             obtain ⟨A8, n8, c8, rfl⟩ := own_shape hown
             rw [← HMK.out] at hown
             have HO8 := Lib.hid hown
             have HX8 := Lib.hid hext
             clear hown hext))
        refine ⟨⟨k + 1, _, by omega, rfl, by have := HMX.out.2.2.2.2; omega, ?_, HO8.out, HX8.out⟩, ?_⟩
        · rw [HMX.out.2.2.2.1, HDK.out]
        · show (cur.extract (N + 8) cur.size).size < cur.size
          have := HMX.out.2.2.2.2
          omega
      · have hB : ((bs (frm x.toList)).toList == (cur.extract 0 (N + 8)).toList) = false := by rw [bs_list, HMX.out.2.1]; simpa using hcmp
        have hfst : fstL cur.toList = none := by rw [HFE.out, ← HMX.out.1, if_neg hcmp]
        have HX := HX7
        have HO := HO7
        clear hcmp
        generalize bs (frm x.toList) = fx at hB ⊢
        refine' wpAnyH_take (i := 6) (oi := _) (v := _) ?hi34 ?hs34 ?hf34 ?hr34 ?hQ34 (Or.inl ⟨?hw34, ?hy34⟩) (by assumption) ?hrest34
        case hi34 => simp only [List.getElem?_toArray]; rfl
        case hs34 => kernel_rfl
        case hf34 => kernel_rfl
        case hr34 => kernel_rfl
        case hQ34 => exact fun _ _ _ h => h
        case hw34 => rfl
        case hy34 => intro w hSw; (try dsimp only at hSw); go_simp; try with_reducible rfl
        try simp only [Act.put, List.setIfInBounds_toArray, List.set_cons_zero, List.set_cons_succ]
        refine wpAnyH_done (by kernel_rfl) ?_ _
        have hkR : k = R.length := by
          have h1 := HRD.out
          rw [read_none hfst] at h1
          have := congrArg List.length h1
          simp at this
          omega
        subst hkR
        go_wp2_with fail
        go_ret
        refine ⟨_, rfl, ?_, HX.out⟩
        have := HO.out
        rwa [List.take_length] at this
end Go.Proofs.Ytdndeggognfcaaa
