/- AofTorn walked. -/
import Derived.Test.YtdndeggognfcaaaAofR
namespace Go.Proofs.Ytdndeggognfcaaa
open Go.RowKit Crc Fil
set_option linter.unusedVariables false
set_option linter.unusedSectionVars false
set_option linter.unusedSimpArgs false
set_option maxRecDepth 100000


/-- A log that is another one than the one at work. -/
def OldS (w : World) (lg : Nat) (l : List ByteArray) (sure : Nat) (K : List Nat) : Prop := ∃ u0 u1 u4 rv, w.heap[lg]? = some (.cells #[u0, u1, rv, .int .i64 (sure : Int), u4] 47 (0, 0)) ∧ w.ownsRow 0 9 1 rv l.length (l.map .string) ∧ lg ∉ K ∧ ∀ k, rv.ownBlock = some k → k ∉ K
theorem OldS.step {w w' : World} {lg sure : Nat} {l : List ByteArray} {K K' : List Nat} (h : OldS w lg l sure K) (hk : Kp K w w') (hs : Sub w K K') : OldS w' lg l sure K' := by
  obtain ⟨u0, u1, u4, rv, h1, h2, h3, h4⟩ := h
  refine ⟨u0, u1, u4, rv, hk.heap h1 h3, own_kp h2 hk h4, fun hm => ?_, fun k hr hm => ?_⟩
  · have := (Array.getElem?_eq_some_iff.1 h1).1
    exact (hs lg hm).elim h3 (fun hh => by omega)
  · obtain ⟨c, f, h5⟩ := own_at h2 k hr
    have := (Array.getElem?_eq_some_iff.1 h5).1
    exact (hs k hm).elim (h4 k hr) (fun hh => by omega)
theorem lsure_core (lg sure : Nat) (u0 u1 u2 u4 : Value) (w : World) (hb : w.heap[lg]? = some (.cells #[u0, u1, u2, .int .i64 (sure : Int), u4] 47 (0, 0))) :
    Calls Try.prog 25 #[.pointer (some ⟨lg, 0, none⟩)] w fun e w' => e = .returned (.int .i64 (sure : Int)) ∧ w = w' := by
  have c3 := heap_cell hb 3
  clear hb
  go_enter Try.func25, Try.ntmps25
  go_wp2_with fail
  go_ret
  exact ⟨rfl, rfl⟩
theorem frms_mono (l : List ByteArray) {i j : Nat} (h : i ≤ j) : (frmsB (l.take i)).length ≤ (frmsB (l.take j)).length := by
  have e : l.take j = l.take i ++ (l.take j).drop i := by
    have := List.take_append_drop i (l.take j)
    rw [List.take_take, Nat.min_eq_left h] at this
    exact this.symm
  rw [e]
  unfold frmsB
  rw [List.map_append, frms_app, List.length_append]
  omega
theorem RowK.mono {w : World} {u : Value} {l : List ByteArray} {K K' : List Nat} (h : RowK w u l K) (hs : ∀ k ∈ K', k ∈ K) : RowK w u l K' := ⟨h.1, fun k hk hm => h.2 k hk (hs k hm)⟩
theorem txt_cap {w : World} {A : Option Addr} {n c : Nat} {l : List ByteArray} (h : Txt w (.slice A n c) l) : n ≤ c ∧ c ≤ 9223372036854775807 := by
  obtain ⟨A', n', c', h1, h2, h3, h4, h5⟩ := h
  cases h1
  exact ⟨h3, h4⟩
theorem rowK_file {w : World} {u : Value} {l : List ByteArray} {g : Nat} {L : List Nat} {t : St} (h : w.ownsRow 0 9 1 u l.length (l.map .string)) (hf : FileAt w g L t) : RowK w u l L :=
  ⟨h, fun k hk => by
    obtain ⟨c, f, h1⟩ := own_at h k hk
    exact hf.other h1 (by decide) (by decide)⟩
theorem append_empty (x : ByteArray) (hx : x.size ≤ 16777216) : appendR St.empty x = (0, ⟨x, 0, none, none⟩) := by
  unfold appendR
  rw [if_neg (by show ¬ (0 + x.size > 16777216); omega)]
  have : St.empty.s ++ x = x := bytes_ext (by rw [toList_append2, empty_list]; rfl)
  rw [this]
  rfl
set_option maxHeartbeats 20000000 in
theorem aofTorn_any (v : Value) (l : List ByteArray) (ct : Nat) (w : World) (hv : Txt w v l) (hs : Fit l) (hct : ct < 65536) : Calls Try.prog 8 #[v, .int .u16 (ct : Int)] w fun e w' => e = .returned (.bool true) ∧ Ext w w' := by
  obtain ⟨i0, hi0, hz0, hz1, hz2⟩ := info_parts Try.strInfo
  obtain ⟨A, n, c, rfl, hn, hnc, hcm, hr⟩ := hv
  have HN := Lib.hid hn
  have HR := Lib.hid hr
  have HSZ := Lib.hid hs
  clear hn hr hs
  go_enter Try.func8, Try.ntmps8
  go_wp2_with fail
  go_loopw [5, 6, 7] (fun so io iv wr => ∃ (k : Nat) (recs : List ByteArray), k ≤ n ∧ k ≤ 20 ∧ iv = .int .i64 (k : Int) ∧ so = .string (bs (frmsB recs)) ∧ Own w wr io recs ∧ Ext w wr ∧ recs.length ≤ k ∧ ∀ x ∈ recs, good x.toList ∧ x.size ≤ 300) (fun _ _ iv _ => n - (intOf iv).toNat)
  case atStart => exact ⟨0, [], by omega, by omega, rfl, rfl, Own.nil w w, Ext.refl _, by simp, by simp⟩
  case round =>
    obtain ⟨k, recs, hk, hk20, rfl, rfl, hio, hx, hrl, hrg⟩ := hrel
    have HIO := Lib.hid hio
    have HX := Lib.hid hx
    have HRG := Lib.hid hrg
    clear hio hx hrg
    have hfz : (bs (frmsB recs)).size ≤ 20 * 408 := by
      rw [bs_size]
      have := frms_le recs (fun x hx => by have := (HRG.out x hx).2; omega)
      omega
    by_cases hkn : k < n
    · by_cases hk2 : k < 20
      · have hkI : (k : Int) < (n : Int) := by omega
        have hkJ : (0 : Int) ≤ (k : Int) := by omega
        have hkK : (k : Int) < 20 := by omega
        obtain ⟨s, hsk⟩ : ∃ s, l[k]? = some s := ⟨_, List.getElem?_eq_getElem (by rw [HN.out]; exact hkn)⟩
        obtain ⟨ad, rfl, hcell⟩ := (HR.out.ext HX.out).some_ (by rw [List.length_map, HN.out]; omega)
        have c0 := hcell k (.string s) (by rw [List.getElem?_map, hsk]; rfl)
        have hz := HSZ.out s (List.mem_of_getElem? hsk)
        obtain ⟨m, hm⟩ : ∃ m, m = min s.size 300 := ⟨_, rfl⟩
        have hmI : (if (300 : Int) < (s.size : Int) then (300 : Int) else (s.size : Int)) = (m : Int) := by split <;> omega
        have hmJ : (0 : Int) ≤ (m : Int) ∧ (m : Int) ≤ (s.size : Int) := by omega
        have hxz : (s.extract 0 m).size = m := by rw [ByteArray.size_extract]; omega
        have hm3 : m ≤ 300 := by omega
        clear hcell hsk hm
        go_upto_region 6 with fail
        refine wp_region_held_drew (S := fun wz => wz.cell? (ad.add k) = some (.string s)) (by kernel_rfl) c0 (fun hHeld => ?_)
        have hxt : Ext wr wr.drew := Ext.drew _
        generalize wr.drew = v5 at hxt hHeld ⊢
        refine' wpAnyH_take (i := 0) (oi := _) (v := _) ?hi2 ?hs2 ?hf2 ?hr2 ?hQ2 (Or.inl ⟨?hw2, ?hy2⟩) (by assumption) ?hrest2
        case hi2 => simp only [List.getElem?_toArray]; rfl
        case hs2 => kernel_rfl
        case hf2 => kernel_rfl
        case hr2 => kernel_rfl
        case hQ2 => exact fun _ _ _ h => h
        case hw2 => rfl
        case hy2 => intro w hSw; (try dsimp only at hSw); go_simp; try with_reducible rfl
        try simp only [Act.put, List.setIfInBounds_toArray, List.set_cons_zero, List.set_cons_succ]
        refine' wpAnyH_take (i := 1) (oi := _) (v := _) ?hi3 ?hs3 ?hf3 ?hr3 ?hQ3 (Or.inl ⟨?hw3, ?hy3⟩) (by assumption) ?hrest3
        case hi3 => simp only [List.getElem?_toArray]; rfl
        case hs3 => kernel_rfl
        case hf3 => kernel_rfl
        case hr3 => kernel_rfl
        case hQ3 => exact fun _ _ _ h => h
        case hw3 => rfl
        case hy3 => intro w hSw; (try dsimp only at hSw); go_simp; try with_reducible rfl
        try simp only [Act.put, List.setIfInBounds_toArray, List.set_cons_zero, List.set_cons_succ]
        refine' wpAnyH_take (i := 2) (oi := _) (v := _) ?hi4 ?hs4 ?hf4 ?hr4 ?hQ4 (Or.inl ⟨?hw4, ?hy4⟩) (by assumption) ?hrest4
        case hi4 => simp only [List.getElem?_toArray]; rfl
        case hs4 => kernel_rfl
        case hf4 => kernel_rfl
        case hr4 => kernel_rfl
        case hQ4 => exact fun _ _ _ h => h
        case hw4 => rfl
        case hy4 => intro w hSw; (try dsimp only at hSw); go_simp; try with_reducible rfl
        try simp only [Act.put, List.setIfInBounds_toArray, List.set_cons_zero, List.set_cons_succ]
        refine' wpAnyH_take (i := 3) (oi := _) (v := _) ?hi5 ?hs5 ?hf5 ?hr5 ?hQ5 (Or.inl ⟨?hw5, ?hy5⟩) (by assumption) ?hrest5
        case hi5 => simp only [List.getElem?_toArray]; rfl
        case hs5 => kernel_rfl
        case hf5 => kernel_rfl
        case hr5 => kernel_rfl
        case hQ5 => exact fun _ _ _ h => h
        case hw5 => rfl
        case hy5 => intro w hSw; (try dsimp only at hSw); go_simp; try with_reducible rfl
        try simp only [Act.put, List.setIfInBounds_toArray, List.set_cons_zero, List.set_cons_succ]
        refine' wpAnyH_take (i := 4) (oi := _) (v := _) ?hi6 ?hs6 ?hf6 ?hr6 ?hQ6 (Or.inl ⟨?hw6, ?hy6⟩) (by assumption) ?hrest6
        case hi6 => simp only [List.getElem?_toArray]; rfl
        case hs6 => kernel_rfl
        case hf6 => kernel_rfl
        case hr6 => kernel_rfl
        case hQ6 => exact fun _ _ _ h => h
        case hw6 => rfl
        case hy6 => intro w hSw; (try dsimp only at hSw); go_simp; try with_reducible rfl
        try simp only [Act.put, List.setIfInBounds_toArray, List.set_cons_zero, List.set_cons_succ]
        refine' wpAnyH_take (i := 5) (oi := _) (v := _) ?hi7 ?hs7 ?hf7 ?hr7 ?hQ7 (Or.inl ⟨?hw7, ?hy7⟩) (by assumption) ?hrest7
        case hi7 => simp only [List.getElem?_toArray]; rfl
        case hs7 => kernel_rfl
        case hf7 => kernel_rfl
        case hr7 => kernel_rfl
        case hQ7 => exact fun _ _ _ h => h
        case hw7 => rfl
        case hy7 => intro w hSw; (try dsimp only at hSw); go_simp; try with_reducible rfl
        try simp only [Act.put, List.setIfInBounds_toArray, List.set_cons_zero, List.set_cons_succ]
        refine' wpAnyH_take (i := 6) (oi := _) (v := _) ?hi8 ?hs8 ?hf8 ?hr8 ?hQ8 (Or.inl ⟨?hw8, ?hy8⟩) (by assumption) ?hrest8
        case hi8 => simp only [List.getElem?_toArray]; rfl
        case hs8 => kernel_rfl
        case hf8 => kernel_rfl
        case hr8 => kernel_rfl
        case hQ8 => exact fun _ _ _ h => h
        case hw8 => rfl
        case hy8 => intro w hSw; (try dsimp only at hSw); go_simp; try with_reducible rfl
        try simp only [Act.put, List.setIfInBounds_toArray, List.set_cons_zero, List.set_cons_succ]
        refine' wpAnyH_take (i := 7) (oi := _) (v := _) ?hi9 ?hs9 ?hf9 ?hr9 ?hQ9 (Or.inl ⟨?hw9, ?hy9⟩) (by assumption) ?hrest9
        case hi9 => simp only [List.getElem?_toArray]; rfl
        case hs9 => kernel_rfl
        case hf9 => kernel_rfl
        case hr9 => kernel_rfl
        case hQ9 => exact fun _ _ _ h => h
        case hw9 => rfl
        case hy9 => intro w hSw; (try dsimp only at hSw); go_simp; try with_reducible rfl
        try simp only [Act.put, List.setIfInBounds_toArray, List.set_cons_zero, List.set_cons_succ]
        refine' wpAnyH_take (i := 8) (oi := _) (v := _) ?hi10 ?hs10 ?hf10 ?hr10 ?hQ10 (Or.inl ⟨?hw10, ?hy10⟩) (by assumption) ?hrest10
        case hi10 => simp only [List.getElem?_toArray]; rfl
        case hs10 => kernel_rfl
        case hf10 => kernel_rfl
        case hr10 => kernel_rfl
        case hQ10 => exact fun _ _ _ h => h
        case hw10 => rfl
        case hy10 => intro w hSw; (try dsimp only at hSw); go_simp; try with_reducible rfl
        try simp only [Act.put, List.setIfInBounds_toArray, List.set_cons_zero, List.set_cons_succ]
        refine' wpAnyH_take (i := 9) (oi := _) (v := _) ?hi11 ?hs11 ?hf11 ?hr11 ?hQ11 (Or.inl ⟨?hw11, ?hy11⟩) (by assumption) ?hrest11
        case hi11 => simp only [List.getElem?_toArray]; rfl
        case hs11 => kernel_rfl
        case hf11 => kernel_rfl
        case hr11 => kernel_rfl
        case hQ11 => exact fun _ _ _ h => h
        case hw11 => rfl
        case hy11 => intro w hSw; (try dsimp only at hSw); go_simp; try with_reducible rfl
        try simp only [Act.put, List.setIfInBounds_toArray, List.set_cons_zero, List.set_cons_succ]
        refine' wpAnyH_take (i := 10) (oi := _) (v := _) ?hi12 ?hs12 ?hf12 ?hr12 ?hQ12 (Or.inl ⟨?hw12, ?hy12⟩) (by assumption) ?hrest12
        case hi12 => simp only [List.getElem?_toArray]; rfl
        case hs12 => kernel_rfl
        case hf12 => kernel_rfl
        case hr12 => kernel_rfl
        case hQ12 => exact fun _ _ _ h => h
        case hw12 => rfl
        case hy12 => intro w hSw; (try dsimp only at hSw); go_simp; try with_reducible rfl
        try simp only [Act.put, List.setIfInBounds_toArray, List.set_cons_zero, List.set_cons_succ]
        refine' wpAnyH_take (i := 11) (oi := _) (v := _) ?hi13 ?hs13 ?hf13 ?hr13 ?hQ13 (Or.inl ⟨?hw13, ?hy13⟩) (by assumption) ?hrest13
        case hi13 => simp only [List.getElem?_toArray]; rfl
        case hs13 => kernel_rfl
        case hf13 => kernel_rfl
        case hr13 => kernel_rfl
        case hQ13 => exact fun _ _ _ h => h
        case hw13 => rfl
        case hy13 => intro w hSw; (try dsimp only at hSw); go_simp; try with_reducible rfl
        try simp only [Act.put, List.setIfInBounds_toArray, List.set_cons_zero, List.set_cons_succ]
        refine wpAnyH_done (by kernel_rfl) ?_ _
        have HX5 := Lib.hid (HX.out.trans hxt)
        have HIO5 := Lib.hid (HIO.out.ext hxt)
        clear hHeld hxt c0
        generalize s.extract 0 m = x at hxz ⊢
        clear hmI hmJ hz
        by_cases hm0 : m = 0
        · have hem : x.toList.isEmpty = true := by rw [List.isEmpty_iff_length_eq_zero, size_list, hxz, hm0]
          go_wp2_with fail
          go_roundw
          case rel => exact ⟨k + 1, recs, by omega, by omega, by go_num, rfl, HIO5.out, HX5.out, by omega, HRG.out⟩
          case measure => simp [intOf]; omega
        · have hem : x.toList.isEmpty = false := by
            rw [← Bool.not_eq_true, List.isEmpty_iff_length_eq_zero, size_list, hxz]
            exact hm0
          have hg : good x.toList := by unfold good; rw [size_list, hxz]; omega
          have hfx : (bs (frm x.toList)).size = m + 8 := by rw [bs_size, frm_len hg, size_list, hxz]
          go_wp2_with (first
            | (at_builtin
               refine app_strs _ rfl (.tmp 41) (.tmp 43) rfl w _ recs rfl (HIO5.out.ext (Ext.alloc v5 _)) (some ⟨v5.heap.size, 0, none⟩) 1 1 [x] rfl rfl (by exact Rd.new v5 #[_] 9) (by simp; omega) (HX5.out.trans (Ext.alloc v5 _)) ?_
               intro v6 w6 hown hext
               obtain ⟨A6, n6, c6, rfl⟩ := own_shape hown
               have HIO6 := Lib.hid hown
               have HX6 := Lib.hid hext
               clear hown hext))
          refine (frameF_any x w6 (by omega)).mono ?_
          rintro e w7 ⟨rfl, hx7⟩
          have HX7 := Lib.hid (HX6.out.trans hx7)
          have HIO7 := Lib.hid (HIO6.out.ext hx7)
          have HAP : Hid (bs (frmsB recs) ++ bs (frm x.toList) = bs (frmsB (recs ++ [x]))) := Lib.hid (by
            rw [bs_app]
            unfold frmsB
            rw [List.map_append, frms_app]
            simp [frms])
          clear hx7
          generalize bs (frm x.toList) = fr at hfx HAP ⊢
          generalize bs (frmsB recs) = fo at hfz HAP ⊢
          go_wp2_with fail
          go_roundw
          case rel =>
            refine ⟨k + 1, recs ++ [x], by omega, by omega, by go_num, by rw [HAP.out], HIO7.out, HX7.out, by rw [List.length_append]; simp; omega, fun y hy => ?_⟩
            rcases List.mem_append.1 hy with hy | hy
            · exact HRG.out y hy
            · obtain rfl := List.mem_singleton.1 hy
              exact ⟨hg, by omega⟩
          case measure => simp [intOf]; omega
      · have hkK : ¬ (k : Int) < 20 := by omega
        have hkI : (k : Int) < (n : Int) := by omega
        obtain ⟨Ai, ci, rfl⟩ := own_len HIO.out
        have hfz2 := bs_size (frmsB recs)
        obtain ⟨kk, hkk⟩ : ∃ kk, kk = ct % ((frmsB recs).length + 1) := ⟨_, rfl⟩
        have hkl : kk ≤ (frmsB recs).length := by
          have := Nat.mod_lt ct (show 0 < (frmsB recs).length + 1 by omega)
          omega
        have hkI9 : (ct : Int) % (((frmsB recs).length : Int) + 1) = (kk : Int) := by rw [hkk]; simp
        have HG := Lib.hid (fun x hx => (HRG.out x hx).1)
        have HKL := Lib.hid hkl
        clear hkk
        go_upto_region 11 with fail
        rw [hkI9]
        clear hkI9
        have hkJ9 : (0 : Int) ≤ (kk : Int) ∧ (kk : Int) ≤ ((bs (frmsB recs)).size : Int) := by omega
        go_wp2_with fail
        refine (new_own w _ HX.out).mono ?_
        rintro e w1 ⟨g, rfl, ⟨L, hxL, hfL, hbL, hoL⟩, hx1⟩
        have HR1 := Lib.hid (rowK_file (own_base (HIO.out.ext hx1)) hfL)
        have HX1 := Lib.hid hxL
        have HB1 := Lib.hid hbL
        have HF1 := Lib.hid hfL
        obtain ⟨j, hj, hop, hjl, hjn⟩ := open_cut HG.out g kk 0 hkl
        have HOP := Lib.hid hop
        have HJN := Lib.hid hjn
        have hcz : (cutS (bs (frmsB recs)) kk).size = kk := cutS_size _ _ (by omega)
        have hap := append_empty (cutS (bs (frmsB recs)) kk) (by omega)
        have hok2 := ok_of hap (St.Ok.empty.append _)
        clear hx1 hxL hbL hoL hop hjn
        go_wp2_with fail
        rw [extract_cut]
        have hcall := append_did g L St.empty (cutS (bs (frmsB recs)) kk) w1 HF1.out St.Ok.empty (by omega)
        rw [hap] at hcall
        refine hcall.mono ?_
        rintro e w2 ⟨rfl, hk2, L2, hf2, hs2⟩
        have HF2 := Lib.hid hf2
        have HX2 : Hid (Ext w w2) := Lib.hid (hk2.to_ext HX1.out HB1.out)
        have HR2 := Lib.hid (HR1.out.step hk2 hs2)
        have HB2 : Hid (∀ k ∈ L2, w.heap.size ≤ k) := Lib.hid (fun k hm => (hs2 k hm).elim (HB1.out k) (fun hh => Nat.le_trans HX1.out.size hh))
        clear hcall hk2 hf2 hs2 hap hfL
        go_wp2_with fail
        refine (open_any g L2 _ w2 HF2.out hok2).mono ?_
        rintro e w3 ⟨lg, tb, rv, L3, rfl, hc3, hk3, hs3⟩
        rw [HOP.out] at hc3
        have HOK3 : Hid (St.Ok ⟨bs (frmsB (recs.take j)), (frmsB (recs.take j)).length, none, none⟩) := Lib.hid (by
          have h := openL_ok hok2 g
          rw [HOP.out] at h
          exact h)
        have HC3 := Lib.hid hc3
        have HR3 := Lib.hid (HR2.out.step hk3 hs3)
        have HX3 : Hid (Ext w w3) := Lib.hid (hk3.to_ext HX2.out HB2.out)
        have HB3 : Hid (∀ k ∈ bl lg tb rv L3, w.heap.size ≤ k) := Lib.hid (fun k hm => (hs3 k hm).elim (HB2.out k) (fun hh => Nat.le_trans HX2.out.size hh))
        clear hc3 hk3 hs3 hok2 hcz
        go_wp2_with fail
        refine (records_any lg tb rv L3 _ w3 HC3.out (by dsimp only; rw [List.length_take]; omega)).mono ?_
        rintro e w4 ⟨u4, rfl, hu4, hx4⟩
        dsimp only at hu4
        have HC4 := Lib.hid (HC3.out.ext hx4)
        have HX4 := Lib.hid (HX3.out.trans hx4)
        have HR4 := Lib.hid (HR3.out.step (Kp.of_ext (L := bl lg tb rv L3) hx4) (Sub.refl _ _))
        have HU4 : Hid (RowK w4 u4 (recs.take j) (bl lg tb rv L3)) := Lib.hid ⟨own_base hu4, fun k hk hm => by
          have h1 := own_new hu4 k hk
          have h2 := HC3.out.lts k hm
          omega⟩
        obtain ⟨Au, cu, rfl⟩ := own_len hu4
        have hjz : (recs.take j).length = j := by rw [List.length_take]; omega
        have HRU := Lib.hid (txt_rd (own_txt HU4.out.1))
        have HGT : Hid (∀ x ∈ recs.take j, good x.toList ∧ x.size ≤ 300) := Lib.hid (fun x hx => HRG.out x (List.mem_of_mem_take hx))
        clear hu4 hx4
        rw [hjz] at HU4 ⊢
        go_wp2_with fail
        go_loopw [14, 15] (fun sz iv wz => ∃ q a : Nat, q ≤ j ∧ sz = .int .i64 (a : Int) ∧ iv = .int .i64 (q : Int) ∧ a = (frmsB (recs.take q)).length ∧ Ext w4 wz) (fun _ iv _ => j - (intOf iv).toNat)
        case atStart => exact ⟨0, 0, by omega, rfl, rfl, rfl, Ext.refl _⟩
        case round =>
          obtain ⟨q, a, hq, rfl, rfl, ha, hxz⟩ := hrel
          have HA := Lib.hid ha
          have HXZ := Lib.hid hxz
          have hakk : a ≤ kk := by have := frms_mono recs hq; omega
          clear ha hxz
          by_cases hqj : q < j
          · have hqI : (q : Int) < (j : Int) := by omega
            have hqJ : (0 : Int) ≤ (q : Int) := by omega
            obtain ⟨s, hsk⟩ : ∃ s, recs[q]? = some s := ⟨_, List.getElem?_eq_getElem (by omega)⟩
            obtain ⟨ad, rfl, hcell⟩ := (HRU.out.ext HXZ.out).some_ (by rw [List.length_map, hjz]; omega)
            have c0 := hcell q (.string s) (by rw [List.getElem?_map, List.getElem?_take_of_lt hqj, hsk]; rfl)
            have hnx := frms_next hsk (HRG.out s (List.mem_of_getElem? hsk)).1
            rw [← HA.out] at hnx
            have hak2 : a + s.size + 8 ≤ kk := by have := frms_mono recs (show q + 1 ≤ j from hqj); omega
            have HNX := Lib.hid hnx
            clear hcell hsk hnx
            go_wp2_with fail
            exact ⟨⟨q + 1, a + s.size + 8, by omega, by go_num, by go_num, HNX.out.symm, HXZ.out.trans (by first | exact Ext.refl _ | exact Ext.drew _)⟩, by simp [intOf]; omega⟩
          · have hqI : ¬ (q : Int) < (j : Int) := by omega
            obtain rfl : q = j := by omega
            go_wp2_with fail
            have HCZ := Lib.hid (HC4.out.ext HXZ.out)
            have hf : FileAt wr g L3 ⟨bs (frmsB (recs.take q)), (frmsB (recs.take q)).length, none, none⟩ := HCZ.out.file
            have hold : OldS wr lg (recs.take q) q L3 := ⟨_, _, _, rv, HCZ.out.blk, HCZ.out.own, HCZ.out.lg_file, HCZ.out.row_file⟩
            have hrz := (HR4.out.step (Kp.of_ext (L := bl lg tb rv L3) HXZ.out) (Sub.refl _ _)).mono (K' := L3) (fun k hk => mem_bl.2 (.inr (.inr (.inr hk))))
            have huz := (HU4.out.step (Kp.of_ext (L := bl lg tb rv L3) HXZ.out) (Sub.refl _ _)).mono (K' := L3) (fun k hk => mem_bl.2 (.inr (.inr (.inr hk))))
            refine (open_any g L3 _ wr hf HOK3.out).mono ?_
            rintro e w5 ⟨mg, tb2, rv2, L5, rfl, hc5, hk5, hs5⟩
            rw [open_frames (fun x hx => (HGT.out x hx).1)] at hc5
            have HC5 := Lib.hid hc5
            have HOLD5 := Lib.hid (hold.step hk5 hs5)
            have HR5 := Lib.hid (hrz.step hk5 hs5)
            have HU5 := Lib.hid (huz.step hk5 hs5)
            have HX5 : Hid (Ext w w5) := Lib.hid (hk5.to_ext (HX4.out.trans HXZ.out) (fun k hm => HB3.out k (mem_bl.2 (.inr (.inr (.inr hm))))))
            obtain ⟨A1, hA1, hsl1⟩ := cut_upto (P := Try.prog) 34 9 i0 1 Try.underlying34 hi0 hz1 (txt_rd (own_txt HR5.out.1)) (txt_cap (own_txt HR5.out.1)).1 q (q : Int) rfl hj
            have hT1 : Txt w5 (.slice A1 q ci) (recs.take q) := ⟨A1, q, ci, rfl, hjz, Nat.le_trans hj (txt_cap (own_txt HR5.out.1)).1, (txt_cap (own_txt HR5.out.1)).2, by rw [Nat.mul_one] at hA1; rw [List.map_take]; exact hA1⟩
            have HT1 := Lib.hid hT1
            clear hf hold hrz huz hc5 hk5 hs5 hA1 hT1
            have hjn : ¬ ((recs.length : Int) < (q : Int)) := by omega
            go_wp2_with fail
            refine (same_yes _ _ (recs.take q) (recs.take q) w5 (own_txt HU5.out.1) HT1.out rfl).mono ?_
            rintro e w6 ⟨rfl, hx6⟩
            have HC6 := Lib.hid (HC5.out.ext hx6)
            have HOLD6 := Lib.hid (HOLD5.out.step (Kp.of_ext (L := bl mg tb2 rv2 L5) hx6) (Sub.refl _ _))
            have HU6 := Lib.hid (HU5.out.step (Kp.of_ext (L := bl mg tb2 rv2 L5) hx6) (Sub.refl _ _))
            have HR6 := Lib.hid (HR5.out.step (Kp.of_ext (L := bl mg tb2 rv2 L5) hx6) (Sub.refl _ _))
            have HX6 := Lib.hid (HX5.out.trans hx6)
            have hpre : (bs (frmsB recs)).extract 0 a = bs (frmsB (recs.take q)) := by rw [HA.out]; exact frms_pre q
            have HPRE := Lib.hid hpre
            have hakI : ¬ ((kk : Int) < (a : Int)) := by omega
            clear hx6 hpre hsl1
            by_cases hqr : q = recs.length
            · subst hqr
              go_wp2_with fail
              refine wp_region_held_drew (S := (fun _ => True)) (by kernel_rfl) trivial (fun hHeld => ?_)
              have hxt : Ext w6 w6.drew := Ext.drew _
              generalize w6.drew = v7 at hxt hHeld ⊢
              have HSX := Lib.hid (fun (wz : World) (_ : Ext w6 wz) => trivial)
              refine' wpAnyH_take (i := 0) (oi := _) (v := _) ?hi18 ?hs18 ?hf18 ?hr18 ?hQ18 (Or.inl ⟨?hw18, ?hy18⟩) (by assumption) ?hrest18
              case hi18 => simp only [List.getElem?_toArray]; rfl
              case hs18 => kernel_rfl
              case hf18 => kernel_rfl
              case hr18 => kernel_rfl
              case hQ18 => exact fun _ _ _ h => h
              case hw18 => rfl
              case hy18 => intro w hSw; (try dsimp only at hSw); go_simp; try with_reducible rfl
              try simp only [Act.put, List.setIfInBounds_toArray, List.set_cons_zero, List.set_cons_succ]
              refine' wpAnyH_take (i := 1) (oi := _) (v := _) ?hi19 ?hs19 ?hf19 ?hr19 ?hQ19 (Or.inl ⟨?hw19, ?hy19⟩) (by assumption) ?hrest19
              case hi19 => simp only [List.getElem?_toArray]; rfl
              case hs19 => kernel_rfl
              case hf19 => kernel_rfl
              case hr19 => kernel_rfl
              case hQ19 => exact fun _ _ _ h => h
              case hw19 => rfl
              case hy19 => intro w hSw; (try dsimp only at hSw); go_simp; try with_reducible rfl
              try simp only [Act.put, List.setIfInBounds_toArray, List.set_cons_zero, List.set_cons_succ]
              refine' wpAnyH_take (i := 2) (oi := _) (v := _) ?hi20 ?hs20 ?hf20 ?hr20 ?hQ20 (Or.inl ⟨?hw20, ?hy20⟩) (by assumption) ?hrest20
              case hi20 => simp only [List.getElem?_toArray]; rfl
              case hs20 => kernel_rfl
              case hf20 => kernel_rfl
              case hr20 => kernel_rfl
              case hQ20 => exact fun _ _ _ h => h
              case hw20 => rfl
              case hy20 => intro w hSw; (try dsimp only at hSw); go_simp; try with_reducible rfl
              try simp only [Act.put, List.setIfInBounds_toArray, List.set_cons_zero, List.set_cons_succ]
              refine' wpAnyH_take (i := 3) (oi := _) (v := _) ?hi21 ?hs21 ?hf21 ?hr21 ?hQ21 (Or.inl ⟨?hw21, ?hy21⟩) (by assumption) ?hrest21
              case hi21 => simp only [List.getElem?_toArray]; rfl
              case hs21 => kernel_rfl
              case hf21 => kernel_rfl
              case hr21 => kernel_rfl
              case hQ21 => exact fun _ _ _ h => h
              case hw21 => rfl
              case hy21 => intro w hSw; (try dsimp only at hSw); go_simp; try with_reducible rfl
              try simp only [Act.put, List.setIfInBounds_toArray, List.set_cons_zero, List.set_cons_succ]
              refine' wpAnyH_take (i := 4) (oi := _) (v := _) ?hi22 ?hs22 ?hf22 ?hr22 ?hQ22 (Or.inl ⟨?hw22, ?hy22⟩) (by assumption) ?hrest22
              case hi22 => simp only [List.getElem?_toArray]; rfl
              case hs22 => kernel_rfl
              case hf22 => kernel_rfl
              case hr22 => kernel_rfl
              case hQ22 => exact fun _ _ _ h => h
              case hw22 => rfl
              case hy22 => intro w hSw; (try dsimp only at hSw); go_simp; try with_reducible rfl
              try simp only [Act.put, List.setIfInBounds_toArray, List.set_cons_zero, List.set_cons_succ]
              refine' wpAnyH_take (i := 5) (oi := _) (v := _) ?hi23 ?hs23 ?hf23 ?hr23 ?hQ23 (Or.inl ⟨?hw23, ?hy23⟩) (by assumption) ?hrest23
              case hi23 => simp only [List.getElem?_toArray]; rfl
              case hs23 => kernel_rfl
              case hf23 => kernel_rfl
              case hr23 => kernel_rfl
              case hQ23 => exact fun _ _ _ h => h
              case hw23 => rfl
              case hy23 => intro w hSw; (try dsimp only at hSw); go_simp; try with_reducible rfl
              try simp only [Act.put, List.setIfInBounds_toArray, List.set_cons_zero, List.set_cons_succ]
              refine' wpAnyH_take (i := 6) (oi := _) (v := _) ?hi24 ?hs24 ?hf24 ?hr24 ?hQ24 (Or.inl ⟨?hw24, ?hy24⟩) (by assumption) ?hrest24
              case hi24 => simp only [List.getElem?_toArray]; rfl
              case hs24 => kernel_rfl
              case hf24 => kernel_rfl
              case hr24 => kernel_rfl
              case hQ24 => exact fun _ _ _ h => h
              case hw24 => rfl
              case hy24 => intro w hSw; (try dsimp only at hSw); go_simp; try with_reducible rfl
              try simp only [Act.put, List.setIfInBounds_toArray, List.set_cons_zero, List.set_cons_succ]
              refine' wpAnyH_take (i := 7) (oi := _) (v := _) ?hi25 ?hs25 ?hf25 ?hr25 ?hQ25 (Or.inl ⟨?hw25, ?hy25⟩) (by assumption) ?hrest25
              case hi25 => simp only [List.getElem?_toArray]; rfl
              case hs25 => kernel_rfl
              case hf25 => kernel_rfl
              case hr25 => kernel_rfl
              case hQ25 => exact fun _ _ _ h => h
              case hw25 => rfl
              case hy25 => intro w hSw; (try dsimp only at hSw); go_simp; try with_reducible rfl
              try simp only [Act.put, List.setIfInBounds_toArray, List.set_cons_zero, List.set_cons_succ]
              refine' wpAnyH_take (i := 8) (oi := _) (v := _) ?hi26 ?hs26 ?hf26 ?hr26 ?hQ26 (Or.inl ⟨?hw26, ?hy26⟩) (by assumption) ?hrest26
              case hi26 => simp only [List.getElem?_toArray]; rfl
              case hs26 => kernel_rfl
              case hf26 => kernel_rfl
              case hr26 => kernel_rfl
              case hQ26 => exact fun _ _ _ h => h
              case hw26 => rfl
              case hy26 => intro w hSw; (try dsimp only at hSw); go_simp; try with_reducible rfl
              try simp only [Act.put, List.setIfInBounds_toArray, List.set_cons_zero, List.set_cons_succ]
              refine' wpAnyH_take (i := 9) (oi := _) (v := _) ?hi27 ?hs27 ?hf27 ?hr27 ?hQ27 (Or.inl ⟨?hw27, ?hy27⟩) (by assumption) ?hrest27
              case hi27 => simp only [List.getElem?_toArray]; rfl
              case hs27 => kernel_rfl
              case hf27 => kernel_rfl
              case hr27 => kernel_rfl
              case hQ27 => exact fun _ _ _ h => h
              case hw27 => rfl
              case hy27 => intro w hSw; (try dsimp only at hSw); go_simp; try with_reducible rfl
              try simp only [Act.put, List.setIfInBounds_toArray, List.set_cons_zero, List.set_cons_succ]
              refine' wpAnyH_take (i := 10) (oi := _) (v := undef) ?hi28 ?hs28 ?hf28 ?hr28 ?hQ28 (Or.inr ⟨?hw28, rfl⟩) (by assumption) ?hrest28
              case hi28 => simp only [List.getElem?_toArray]; rfl
              case hs28 => kernel_rfl
              case hf28 => kernel_rfl
              case hr28 => kernel_rfl
              case hQ28 => exact fun _ _ _ h => h
              case hw28 => rfl
              try simp only [Act.put, List.setIfInBounds_toArray, List.set_cons_zero, List.set_cons_succ]
              refine' wpAnyH_take (i := 11) (oi := _) (v := undef) ?hi29 ?hs29 ?hf29 ?hr29 ?hQ29 (Or.inr ⟨?hw29, rfl⟩) (by assumption) ?hrest29
              case hi29 => simp only [List.getElem?_toArray]; rfl
              case hs29 => kernel_rfl
              case hf29 => kernel_rfl
              case hr29 => kernel_rfl
              case hQ29 => exact fun _ _ _ h => h
              case hw29 => rfl
              try simp only [Act.put, List.setIfInBounds_toArray, List.set_cons_zero, List.set_cons_succ]
              refine' wpAnyH_take (i := 12) (oi := _) (v := undef) ?hi30 ?hs30 ?hf30 ?hr30 ?hQ30 (Or.inr ⟨?hw30, rfl⟩) (by assumption) ?hrest30
              case hi30 => simp only [List.getElem?_toArray]; rfl
              case hs30 => kernel_rfl
              case hf30 => kernel_rfl
              case hr30 => kernel_rfl
              case hQ30 => exact fun _ _ _ h => h
              case hw30 => rfl
              try simp only [Act.put, List.setIfInBounds_toArray, List.set_cons_zero, List.set_cons_succ]
              refine' wpAnyH_take (i := 13) (oi := _) (v := undef) ?hi31 ?hs31 ?hf31 ?hr31 ?hQ31 (Or.inr ⟨?hw31, rfl⟩) (by assumption) ?hrest31
              case hi31 => simp only [List.getElem?_toArray]; rfl
              case hs31 => kernel_rfl
              case hf31 => kernel_rfl
              case hr31 => kernel_rfl
              case hQ31 => exact fun _ _ _ h => h
              case hw31 => rfl
              try simp only [Act.put, List.setIfInBounds_toArray, List.set_cons_zero, List.set_cons_succ]
              refine' wpAnyH_take (i := 14) (oi := _) (v := undef) ?hi32 ?hs32 ?hf32 ?hr32 ?hQ32 (Or.inr ⟨?hw32, rfl⟩) (by assumption) ?hrest32
              case hi32 => simp only [List.getElem?_toArray]; rfl
              case hs32 => kernel_rfl
              case hf32 => kernel_rfl
              case hr32 => kernel_rfl
              case hQ32 => exact fun _ _ _ h => h
              case hw32 => rfl
              try simp only [Act.put, List.setIfInBounds_toArray, List.set_cons_zero, List.set_cons_succ]
              refine' wpAnyH_take (i := 15) (oi := _) (v := undef) ?hi33 ?hs33 ?hf33 ?hr33 ?hQ33 (Or.inr ⟨?hw33, rfl⟩) (by assumption) ?hrest33
              case hi33 => simp only [List.getElem?_toArray]; rfl
              case hs33 => kernel_rfl
              case hf33 => kernel_rfl
              case hr33 => kernel_rfl
              case hQ33 => exact fun _ _ _ h => h
              case hw33 => rfl
              try simp only [Act.put, List.setIfInBounds_toArray, List.set_cons_zero, List.set_cons_succ]
              refine' wpAnyH_take (i := 16) (oi := _) (v := undef) ?hi34 ?hs34 ?hf34 ?hr34 ?hQ34 (Or.inr ⟨?hw34, rfl⟩) (by assumption) ?hrest34
              case hi34 => simp only [List.getElem?_toArray]; rfl
              case hs34 => kernel_rfl
              case hf34 => kernel_rfl
              case hr34 => kernel_rfl
              case hQ34 => exact fun _ _ _ h => h
              case hw34 => rfl
              try simp only [Act.put, List.setIfInBounds_toArray, List.set_cons_zero, List.set_cons_succ]
              refine' wpAnyH_take (i := 17) (oi := _) (v := undef) ?hi35 ?hs35 ?hf35 ?hr35 ?hQ35 (Or.inr ⟨?hw35, rfl⟩) (by assumption) ?hrest35
              case hi35 => simp only [List.getElem?_toArray]; rfl
              case hs35 => kernel_rfl
              case hf35 => kernel_rfl
              case hr35 => kernel_rfl
              case hQ35 => exact fun _ _ _ h => h
              case hw35 => rfl
              try simp only [Act.put, List.setIfInBounds_toArray, List.set_cons_zero, List.set_cons_succ]
              refine' wpAnyH_take (i := 18) (oi := _) (v := undef) ?hi36 ?hs36 ?hf36 ?hr36 ?hQ36 (Or.inr ⟨?hw36, rfl⟩) (by assumption) ?hrest36
              case hi36 => simp only [List.getElem?_toArray]; rfl
              case hs36 => kernel_rfl
              case hf36 => kernel_rfl
              case hr36 => kernel_rfl
              case hQ36 => exact fun _ _ _ h => h
              case hw36 => rfl
              try simp only [Act.put, List.setIfInBounds_toArray, List.set_cons_zero, List.set_cons_succ]
              refine' wpAnyH_take (i := 19) (oi := _) (v := undef) ?hi37 ?hs37 ?hf37 ?hr37 ?hQ37 (Or.inr ⟨?hw37, rfl⟩) (by assumption) ?hrest37
              case hi37 => simp only [List.getElem?_toArray]; rfl
              case hs37 => kernel_rfl
              case hf37 => kernel_rfl
              case hr37 => kernel_rfl
              case hQ37 => exact fun _ _ _ h => h
              case hw37 => rfl
              try simp only [Act.put, List.setIfInBounds_toArray, List.set_cons_zero, List.set_cons_succ]
              refine' wpAnyH_take (i := 20) (oi := _) (v := undef) ?hi38 ?hs38 ?hf38 ?hr38 ?hQ38 (Or.inr ⟨?hw38, rfl⟩) (by assumption) ?hrest38
              case hi38 => simp only [List.getElem?_toArray]; rfl
              case hs38 => kernel_rfl
              case hf38 => kernel_rfl
              case hr38 => kernel_rfl
              case hQ38 => exact fun _ _ _ h => h
              case hw38 => rfl
              try simp only [Act.put, List.setIfInBounds_toArray, List.set_cons_zero, List.set_cons_succ]
              have hal : a ≤ (frmsB recs).length := by omega
              refine' wpAnyH_take (i := 21) (oi := _) (v := _) ?hi109 ?hs109 ?hf109 ?hr109 ?hQ109 (Or.inl ⟨?hw109, ?hy109⟩) (by assumption) ?hrest109
              case hi109 => simp only [List.getElem?_toArray]; rfl
              case hs109 => kernel_rfl
              case hf109 => kernel_rfl
              case hr109 => kernel_rfl
              case hQ109 => exact fun _ _ _ h => h
              case hw109 => rfl
              case hy109 => intro w hSw; (try dsimp only at hSw); go_simp; try with_reducible rfl
              try simp only [Act.put, List.setIfInBounds_toArray, List.set_cons_zero, List.set_cons_succ]
              refine' wpAnyH_take (i := 22) (oi := _) (v := _) ?hi110 ?hs110 ?hf110 ?hr110 ?hQ110 (Or.inl ⟨?hw110, ?hy110⟩) (by assumption) ?hrest110
              case hi110 => simp only [List.getElem?_toArray]; rfl
              case hs110 => kernel_rfl
              case hf110 => kernel_rfl
              case hr110 => kernel_rfl
              case hQ110 => exact fun _ _ _ h => h
              case hw110 => rfl
              case hy110 => intro w hSw; (try dsimp only at hSw); go_simp; try with_reducible rfl
              try simp only [Act.put, List.setIfInBounds_toArray, List.set_cons_zero, List.set_cons_succ]
              refine' wpAnyH_take (i := 23) (oi := _) (v := _) ?hi111 ?hs111 ?hf111 ?hr111 ?hQ111 (Or.inl ⟨?hw111, ?hy111⟩) (by assumption) ?hrest111
              case hi111 => simp only [List.getElem?_toArray]; rfl
              case hs111 => kernel_rfl
              case hf111 => kernel_rfl
              case hr111 => kernel_rfl
              case hQ111 => exact fun _ _ _ h => h
              case hw111 => rfl
              case hy111 => intro w hSw; (try dsimp only at hSw); go_simp; try with_reducible rfl
              try simp only [Act.put, List.setIfInBounds_toArray, List.set_cons_zero, List.set_cons_succ]
              refine' wpAnyH_take (i := 24) (oi := _) (v := _) ?hi112 ?hs112 ?hf112 ?hr112 ?hQ112 (Or.inl ⟨?hw112, ?hy112⟩) (by assumption) ?hrest112
              case hi112 => simp only [List.getElem?_toArray]; rfl
              case hs112 => kernel_rfl
              case hf112 => kernel_rfl
              case hr112 => kernel_rfl
              case hQ112 => exact fun _ _ _ h => h
              case hw112 => rfl
              case hy112 => intro w hSw; (try dsimp only at hSw); go_simp; try with_reducible rfl
              try simp only [Act.put, List.setIfInBounds_toArray, List.set_cons_zero, List.set_cons_succ]
              refine' wpAnyH_take (i := 26) (oi := _) (v := _) ?hi113 ?hs113 ?hf113 ?hr113 ?hQ113 (Or.inl ⟨?hw113, ?hy113⟩) (by assumption) ?hrest113
              case hi113 => simp only [List.getElem?_toArray]; rfl
              case hs113 => kernel_rfl
              case hf113 => kernel_rfl
              case hr113 => kernel_rfl
              case hQ113 => exact fun _ _ _ h => h
              case hw113 => rfl
              case hy113 => intro w hSw; (try dsimp only at hSw); go_simp; try with_reducible rfl
              try simp only [Act.put, List.setIfInBounds_toArray, List.set_cons_zero, List.set_cons_succ]
              refine' wpAnyH_take (i := 27) (oi := _) (v := _) ?hi114 ?hs114 ?hf114 ?hr114 ?hQ114 (Or.inl ⟨?hw114, ?hy114⟩) (by assumption) ?hrest114
              case hi114 => simp only [List.getElem?_toArray]; rfl
              case hs114 => kernel_rfl
              case hf114 => kernel_rfl
              case hr114 => kernel_rfl
              case hQ114 => exact fun _ _ _ h => h
              case hw114 => rfl
              case hy114 => intro w hSw; (try dsimp only at hSw); go_simp; try with_reducible rfl
              try simp only [Act.put, List.setIfInBounds_toArray, List.set_cons_zero, List.set_cons_succ]
              refine' wpAnyH_take (i := 28) (oi := _) (v := _) ?hi115 ?hs115 ?hf115 ?hr115 ?hQ115 (Or.inl ⟨?hw115, ?hy115⟩) (by assumption) ?hrest115
              case hi115 => simp only [List.getElem?_toArray]; rfl
              case hs115 => kernel_rfl
              case hf115 => kernel_rfl
              case hr115 => kernel_rfl
              case hQ115 => exact fun _ _ _ h => h
              case hw115 => rfl
              case hy115 => intro w hSw; (try dsimp only at hSw); go_simp; try with_reducible rfl
              try simp only [Act.put, List.setIfInBounds_toArray, List.set_cons_zero, List.set_cons_succ]
              refine wpAnyH_ready (rs := [25]) (by kernel_rfl) (by simp) ?_
              refine' AllReadyH.cons (o := _) ?ho116 (fun K hK => ?hstep116) AllReadyH.nil
              case ho116 => simp only [List.getElem?_toArray]; rfl
              go_simp
              rw [HPRE.out]
              clear hal
              have HC7 := Lib.hid (HC6.out.ext hxt)
              have HOLD7 := Lib.hid (HOLD6.out.step (Kp.of_ext (L := bl mg tb2 rv2 L5) hxt) (Sub.refl _ _))
              have HU7 := Lib.hid (HU6.out.step (Kp.of_ext (L := bl mg tb2 rv2 L5) hxt) (Sub.refl _ _))
              have HX7 := Lib.hid (HX6.out.trans hxt)
              have htx := text_any g L5 _ v7 HC7.out.file
              dsimp only at htx
              refine htx.mono ?_
              rintro e _ ⟨rfl, rfl⟩
              refine hK.out _ _ ((HSX.out _ hxt)) (fun hHeld => ?_)
              clear hK K
              try simp only [Act.put, List.setIfInBounds_toArray, List.set_cons_zero, List.set_cons_succ]
              clear htx
              generalize bs (frmsB (recs.take recs.length)) = fq
              refine' wpAnyH_take (i := 29) (oi := _) (v := _) ?hi118 ?hs118 ?hf118 ?hr118 ?hQ118 (Or.inl ⟨?hw118, ?hy118⟩) (by assumption) ?hrest118
              case hi118 => simp only [List.getElem?_toArray]; rfl
              case hs118 => kernel_rfl
              case hf118 => kernel_rfl
              case hr118 => kernel_rfl
              case hQ118 => exact fun _ _ _ h => h
              case hw118 => rfl
              case hy118 => intro w hSw; (try dsimp only at hSw); go_simp; try with_reducible rfl
              try simp only [Act.put, List.setIfInBounds_toArray, List.set_cons_zero, List.set_cons_succ]
              refine' wpAnyH_take (i := 30) (oi := _) (v := _) ?hi119 ?hs119 ?hf119 ?hr119 ?hQ119 (Or.inl ⟨?hw119, ?hy119⟩) (by assumption) ?hrest119
              case hi119 => simp only [List.getElem?_toArray]; rfl
              case hs119 => kernel_rfl
              case hf119 => kernel_rfl
              case hr119 => kernel_rfl
              case hQ119 => exact fun _ _ _ h => h
              case hw119 => rfl
              case hy119 => intro w hSw; (try dsimp only at hSw); go_simp; try with_reducible rfl
              try simp only [Act.put, List.setIfInBounds_toArray, List.set_cons_zero, List.set_cons_succ]
              refine' wpAnyH_take (i := 31) (oi := _) (v := _) ?hi120 ?hs120 ?hf120 ?hr120 ?hQ120 (Or.inl ⟨?hw120, ?hy120⟩) (by assumption) ?hrest120
              case hi120 => simp only [List.getElem?_toArray]; rfl
              case hs120 => kernel_rfl
              case hf120 => kernel_rfl
              case hr120 => kernel_rfl
              case hQ120 => exact fun _ _ _ h => h
              case hw120 => rfl
              case hy120 => intro w hSw; (try dsimp only at hSw); go_simp; try with_reducible rfl
              try simp only [Act.put, List.setIfInBounds_toArray, List.set_cons_zero, List.set_cons_succ]
              refine' wpAnyH_take (i := 32) (oi := _) (v := _) ?hi121 ?hs121 ?hf121 ?hr121 ?hQ121 (Or.inl ⟨?hw121, ?hy121⟩) (by assumption) ?hrest121
              case hi121 => simp only [List.getElem?_toArray]; rfl
              case hs121 => kernel_rfl
              case hf121 => kernel_rfl
              case hr121 => kernel_rfl
              case hQ121 => exact fun _ _ _ h => h
              case hw121 => rfl
              case hy121 => intro w hSw; (try dsimp only at hSw); go_simp; try with_reducible rfl
              try simp only [Act.put, List.setIfInBounds_toArray, List.set_cons_zero, List.set_cons_succ]
              refine' wpAnyH_take (i := 34) (oi := _) (v := _) ?hi122 ?hs122 ?hf122 ?hr122 ?hQ122 (Or.inl ⟨?hw122, ?hy122⟩) (by assumption) ?hrest122
              case hi122 => simp only [List.getElem?_toArray]; rfl
              case hs122 => kernel_rfl
              case hf122 => kernel_rfl
              case hr122 => kernel_rfl
              case hQ122 => exact fun _ _ _ h => h
              case hw122 => rfl
              case hy122 => intro w hSw; (try dsimp only at hSw); go_simp; try with_reducible rfl
              try simp only [Act.put, List.setIfInBounds_toArray, List.set_cons_zero, List.set_cons_succ]
              refine wpAnyH_ready (rs := [33]) (by kernel_rfl) (by simp) ?_
              refine' AllReadyH.cons (o := _) ?ho123 (fun K hK => ?hstep123) AllReadyH.nil
              case ho123 => simp only [List.getElem?_toArray]; rfl
              go_simp
              have hsu := sure_any g L5 _ v7 HC7.out.file
              dsimp only at hsu
              rw [← HA.out] at hsu
              refine hsu.mono ?_
              rintro e _ ⟨rfl, rfl⟩
              clear hsu
              refine hK.out _ _ ((HSX.out _ hxt)) (fun hHeld => ?_)
              clear hK K
              try simp only [Act.put, List.setIfInBounds_toArray, List.set_cons_zero, List.set_cons_succ]
              refine' wpAnyH_take (i := 35) (oi := _) (v := _) ?hi125 ?hs125 ?hf125 ?hr125 ?hQ125 (Or.inl ⟨?hw125, ?hy125⟩) (by assumption) ?hrest125
              case hi125 => simp only [List.getElem?_toArray]; rfl
              case hs125 => kernel_rfl
              case hf125 => kernel_rfl
              case hr125 => kernel_rfl
              case hQ125 => exact fun _ _ _ h => h
              case hw125 => rfl
              case hy125 => intro w hSw; (try dsimp only at hSw); go_simp; try with_reducible rfl
              try simp only [Act.put, List.setIfInBounds_toArray, List.set_cons_zero, List.set_cons_succ]
              refine' wpAnyH_take (i := 36) (oi := _) (v := _) ?hi126 ?hs126 ?hf126 ?hr126 ?hQ126 (Or.inl ⟨?hw126, ?hy126⟩) (by assumption) ?hrest126
              case hi126 => simp only [List.getElem?_toArray]; rfl
              case hs126 => kernel_rfl
              case hf126 => kernel_rfl
              case hr126 => kernel_rfl
              case hQ126 => exact fun _ _ _ h => h
              case hw126 => rfl
              case hy126 => intro w hSw; (try dsimp only at hSw); go_simp; try with_reducible rfl
              try simp only [Act.put, List.setIfInBounds_toArray, List.set_cons_zero, List.set_cons_succ]
              refine' wpAnyH_take (i := 37) (oi := _) (v := _) ?hi127 ?hs127 ?hf127 ?hr127 ?hQ127 (Or.inl ⟨?hw127, ?hy127⟩) (by assumption) ?hrest127
              case hi127 => simp only [List.getElem?_toArray]; rfl
              case hs127 => kernel_rfl
              case hf127 => kernel_rfl
              case hr127 => kernel_rfl
              case hQ127 => exact fun _ _ _ h => h
              case hw127 => rfl
              case hy127 => intro w hSw; (try dsimp only at hSw); go_simp; try with_reducible rfl
              try simp only [Act.put, List.setIfInBounds_toArray, List.set_cons_zero, List.set_cons_succ]
              refine' wpAnyH_take (i := 38) (oi := _) (v := _) ?hi128 ?hs128 ?hf128 ?hr128 ?hQ128 (Or.inl ⟨?hw128, ?hy128⟩) (by assumption) ?hrest128
              case hi128 => simp only [List.getElem?_toArray]; rfl
              case hs128 => kernel_rfl
              case hf128 => kernel_rfl
              case hr128 => kernel_rfl
              case hQ128 => exact fun _ _ _ h => h
              case hw128 => rfl
              case hy128 => intro w hSw; (try dsimp only at hSw); go_simp; try with_reducible rfl
              try simp only [Act.put, List.setIfInBounds_toArray, List.set_cons_zero, List.set_cons_succ]
              refine' wpAnyH_take (i := 40) (oi := _) (v := _) ?hi129 ?hs129 ?hf129 ?hr129 ?hQ129 (Or.inl ⟨?hw129, ?hy129⟩) (by assumption) ?hrest129
              case hi129 => simp only [List.getElem?_toArray]; rfl
              case hs129 => kernel_rfl
              case hf129 => kernel_rfl
              case hr129 => kernel_rfl
              case hQ129 => exact fun _ _ _ h => h
              case hw129 => rfl
              case hy129 => intro w hSw; (try dsimp only at hSw); go_simp; try with_reducible rfl
              try simp only [Act.put, List.setIfInBounds_toArray, List.set_cons_zero, List.set_cons_succ]
              refine' wpAnyH_take (i := 41) (oi := _) (v := _) ?hi130 ?hs130 ?hf130 ?hr130 ?hQ130 (Or.inl ⟨?hw130, ?hy130⟩) (by assumption) ?hrest130
              case hi130 => simp only [List.getElem?_toArray]; rfl
              case hs130 => kernel_rfl
              case hf130 => kernel_rfl
              case hr130 => kernel_rfl
              case hQ130 => exact fun _ _ _ h => h
              case hw130 => rfl
              case hy130 => intro w hSw; (try dsimp only at hSw); go_simp; try with_reducible rfl
              try simp only [Act.put, List.setIfInBounds_toArray, List.set_cons_zero, List.set_cons_succ]
              refine wpAnyH_ready (rs := [39]) (by kernel_rfl) (by simp) ?_
              refine' AllReadyH.cons (o := _) ?ho131 (fun K hK => ?hstep131) AllReadyH.nil
              case ho131 => simp only [List.getElem?_toArray]; rfl
              go_simp
              obtain ⟨o0, o1, o4, orv, ob, oo, _, _⟩ := HOLD7.out
              refine (lsure_core lg recs.length o0 o1 orv o4 v7 ob).mono ?_
              rintro e _ ⟨rfl, rfl⟩
              clear ob oo
              refine hK.out _ _ ((HSX.out _ hxt)) (fun hHeld => ?_)
              clear hK K
              try simp only [Act.put, List.setIfInBounds_toArray, List.set_cons_zero, List.set_cons_succ]
              refine' wpAnyH_take (i := 42) (oi := _) (v := _) ?hi133 ?hs133 ?hf133 ?hr133 ?hQ133 (Or.inl ⟨?hw133, ?hy133⟩) (by assumption) ?hrest133
              case hi133 => simp only [List.getElem?_toArray]; rfl
              case hs133 => kernel_rfl
              case hf133 => kernel_rfl
              case hr133 => kernel_rfl
              case hQ133 => exact fun _ _ _ h => h
              case hw133 => rfl
              case hy133 => intro w hSw; (try dsimp only at hSw); go_simp; try with_reducible rfl
              try simp only [Act.put, List.setIfInBounds_toArray, List.set_cons_zero, List.set_cons_succ]
              refine' wpAnyH_take (i := 43) (oi := _) (v := _) ?hi134 ?hs134 ?hf134 ?hr134 ?hQ134 (Or.inl ⟨?hw134, ?hy134⟩) (by assumption) ?hrest134
              case hi134 => simp only [List.getElem?_toArray]; rfl
              case hs134 => kernel_rfl
              case hf134 => kernel_rfl
              case hr134 => kernel_rfl
              case hQ134 => exact fun _ _ _ h => h
              case hw134 => rfl
              case hy134 => intro w hSw; (try dsimp only at hSw); go_simp; try with_reducible rfl
              try simp only [Act.put, List.setIfInBounds_toArray, List.set_cons_zero, List.set_cons_succ]
              refine' wpAnyH_take (i := 44) (oi := _) (v := _) ?hi135 ?hs135 ?hf135 ?hr135 ?hQ135 (Or.inl ⟨?hw135, ?hy135⟩) (by assumption) ?hrest135
              case hi135 => simp only [List.getElem?_toArray]; rfl
              case hs135 => kernel_rfl
              case hf135 => kernel_rfl
              case hr135 => kernel_rfl
              case hQ135 => exact fun _ _ _ h => h
              case hw135 => rfl
              case hy135 => intro w hSw; (try dsimp only at hSw); go_simp; try with_reducible rfl
              try simp only [Act.put, List.setIfInBounds_toArray, List.set_cons_zero, List.set_cons_succ]
              refine' wpAnyH_take (i := 45) (oi := _) (v := _) ?hi136 ?hs136 ?hf136 ?hr136 ?hQ136 (Or.inl ⟨?hw136, ?hy136⟩) (by assumption) ?hrest136
              case hi136 => simp only [List.getElem?_toArray]; rfl
              case hs136 => kernel_rfl
              case hf136 => kernel_rfl
              case hr136 => kernel_rfl
              case hQ136 => exact fun _ _ _ h => h
              case hw136 => rfl
              case hy136 => intro w hSw; (try dsimp only at hSw); go_simp; try with_reducible rfl
              try simp only [Act.put, List.setIfInBounds_toArray, List.set_cons_zero, List.set_cons_succ]
              refine' wpAnyH_take (i := 47) (oi := _) (v := _) ?hi137 ?hs137 ?hf137 ?hr137 ?hQ137 (Or.inl ⟨?hw137, ?hy137⟩) (by assumption) ?hrest137
              case hi137 => simp only [List.getElem?_toArray]; rfl
              case hs137 => kernel_rfl
              case hf137 => kernel_rfl
              case hr137 => kernel_rfl
              case hQ137 => exact fun _ _ _ h => h
              case hw137 => rfl
              case hy137 => intro w hSw; (try dsimp only at hSw); go_simp; try with_reducible rfl
              try simp only [Act.put, List.setIfInBounds_toArray, List.set_cons_zero, List.set_cons_succ]
              refine wpAnyH_ready (rs := [46]) (by kernel_rfl) (by simp) ?_
              refine' AllReadyH.cons (o := _) ?ho138 (fun K hK => ?hstep138) AllReadyH.nil
              case ho138 => simp only [List.getElem?_toArray]; rfl
              go_simp
              refine (records_any mg tb2 rv2 L5 _ v7 HC7.out (by dsimp only; omega)).mono ?_
              dsimp only
              rintro e w8 ⟨u8, rfl, hu8, hx8⟩
              obtain ⟨A8, c8, rfl⟩ := own_len hu8
              have HT8 := Lib.hid (own_txt (own_base hu8))
              have HX8 := Lib.hid (hxt.trans hx8)
              have HTU8 := Lib.hid ((own_txt HU7.out.1).ext hx8)
              clear hu8 hx8
              rw [hjz] at HT8 ⊢
              refine hK.out _ _ ((HSX.out _ HX8.out)) (fun hHeld => ?_)
              clear hK K
              try simp only [Act.put, List.setIfInBounds_toArray, List.set_cons_zero, List.set_cons_succ]
              refine wpAnyH_ready (rs := [48]) (by kernel_rfl) (by simp) ?_
              refine' AllReadyH.cons (o := _) ?ho140 (fun K hK => ?hstep140) AllReadyH.nil
              case ho140 => simp only [List.getElem?_toArray]; rfl
              go_simp
              refine (same_yes _ _ (recs.take recs.length) (recs.take recs.length) w8 HT8.out HTU8.out rfl).mono ?_
              rintro e w9 ⟨rfl, hx9⟩
              have HX9 := Lib.hid (HX8.out.trans hx9)
              clear hx9
              refine hK.out _ _ ((HSX.out _ HX9.out)) (fun hHeld => ?_)
              clear hK K
              try simp only [Act.put, List.setIfInBounds_toArray, List.set_cons_zero, List.set_cons_succ]
              refine' wpAnyH_take (i := 49) (oi := _) (v := _) ?hi142 ?hs142 ?hf142 ?hr142 ?hQ142 (Or.inl ⟨?hw142, ?hy142⟩) (by assumption) ?hrest142
              case hi142 => simp only [List.getElem?_toArray]; rfl
              case hs142 => kernel_rfl
              case hf142 => kernel_rfl
              case hr142 => kernel_rfl
              case hQ142 => exact fun _ _ _ h => h
              case hw142 => rfl
              case hy142 => intro w hSw; (try dsimp only at hSw); go_simp; try with_reducible rfl
              try simp only [Act.put, List.setIfInBounds_toArray, List.set_cons_zero, List.set_cons_succ]
              refine' wpAnyH_take (i := 50) (oi := _) (v := _) ?hi143 ?hs143 ?hf143 ?hr143 ?hQ143 (Or.inl ⟨?hw143, ?hy143⟩) (by assumption) ?hrest143
              case hi143 => simp only [List.getElem?_toArray]; rfl
              case hs143 => kernel_rfl
              case hf143 => kernel_rfl
              case hr143 => kernel_rfl
              case hQ143 => exact fun _ _ _ h => h
              case hw143 => rfl
              case hy143 => intro w hSw; (try dsimp only at hSw); go_simp; try with_reducible rfl
              try simp only [Act.put, List.setIfInBounds_toArray, List.set_cons_zero, List.set_cons_succ]
              refine wpAnyH_ready (rs := [51]) (by kernel_rfl) (by simp) ?_
              refine' AllReadyH.cons (o := _) ?ho144 (fun K hK => ?hstep144) AllReadyH.nil
              case ho144 => simp only [List.getElem?_toArray]; rfl
              go_simp
              refine (known_any _).mono ?_
              rintro e w10 ⟨rfl, hx10⟩
              have HX10 := Lib.hid (HX9.out.trans hx10)
              clear hx10
              refine hK.out _ _ ((HSX.out _ HX10.out)) (fun hHeld => ?_)
              clear hK K
              try simp only [Act.put, List.setIfInBounds_toArray, List.set_cons_zero, List.set_cons_succ]
              refine' wpAnyH_take (i := 52) (oi := _) (v := _) ?hi146 ?hs146 ?hf146 ?hr146 ?hQ146 (Or.inl ⟨?hw146, ?hy146⟩) (by assumption) ?hrest146
              case hi146 => simp only [List.getElem?_toArray]; rfl
              case hs146 => kernel_rfl
              case hf146 => kernel_rfl
              case hr146 => kernel_rfl
              case hQ146 => exact fun _ _ _ h => h
              case hw146 => rfl
              case hy146 => intro w hSw; (try dsimp only at hSw); go_simp; try with_reducible rfl
              try simp only [Act.put, List.setIfInBounds_toArray, List.set_cons_zero, List.set_cons_succ]
              refine' wpAnyH_take (i := 53) (oi := _) (v := _) ?hi147 ?hs147 ?hf147 ?hr147 ?hQ147 (Or.inl ⟨?hw147, ?hy147⟩) (by assumption) ?hrest147
              case hi147 => simp only [List.getElem?_toArray]; rfl
              case hs147 => kernel_rfl
              case hf147 => kernel_rfl
              case hr147 => kernel_rfl
              case hQ147 => exact fun _ _ _ h => h
              case hw147 => rfl
              case hy147 => intro w hSw; (try dsimp only at hSw); go_simp; try with_reducible rfl
              try simp only [Act.put, List.setIfInBounds_toArray, List.set_cons_zero, List.set_cons_succ]
              refine wpAnyH_done (by kernel_rfl) ?_ _
              go_wp2_with fail
              go_ret
              exact ⟨rfl, HX6.out.trans HX10.out⟩
            · have hqrI : ((q : Int) == (recs.length : Int)) = false := by simp; omega
              have hqlt : q < recs.length := by omega
              obtain ⟨s, hsk⟩ : ∃ s, recs[q]? = some s := ⟨_, List.getElem?_eq_getElem (by omega)⟩
              obtain ⟨ad, rfl, hcell⟩ := (Rd.some_ (txt_rd (own_txt HR6.out.1))) (by rw [List.length_map]; omega)
              have c0 := hcell q (.string s) (by rw [List.getElem?_map, hsk]; rfl)
              have hnx := HJN.out s hsk
              rw [← HA.out] at hnx
              have hnI : (kk : Int) < (a : Int) + (s.size : Int) + 8 := by omega
              have hnz : s.size ≤ 300 := (HRG.out s (List.mem_of_getElem? hsk)).2
              have hw1 : IntKind.i64.wrap ((a : Int) + (s.size : Int)) = (a : Int) + (s.size : Int) := IntWalk.i64_in _ (by omega)
              have hw2 : IntKind.i64.wrap ((a : Int) + (s.size : Int) + 8) = (a : Int) + (s.size : Int) + 8 := IntWalk.i64_in _ (by omega)
              clear hcell hsk hnx
              go_wp2_with fail
              refine wp_region_held_drew (S := (fun wz => wz.cell? (ad.add q) = some (.string s))) (by kernel_rfl) c0 (fun hHeld => ?_)
              have hxt : Ext w6 w6.drew := Ext.drew _
              generalize w6.drew = v7 at hxt hHeld ⊢
              refine' wpAnyH_take (i := 0) (oi := _) (v := _) ?hi41 ?hs41 ?hf41 ?hr41 ?hQ41 (Or.inl ⟨?hw41, ?hy41⟩) (by assumption) ?hrest41
              case hi41 => simp only [List.getElem?_toArray]; rfl
              case hs41 => kernel_rfl
              case hf41 => kernel_rfl
              case hr41 => kernel_rfl
              case hQ41 => exact fun _ _ _ h => h
              case hw41 => rfl
              case hy41 => intro w hSw; (try dsimp only at hSw); go_simp; try with_reducible rfl
              try simp only [Act.put, List.setIfInBounds_toArray, List.set_cons_zero, List.set_cons_succ]
              refine' wpAnyH_take (i := 1) (oi := _) (v := _) ?hi42 ?hs42 ?hf42 ?hr42 ?hQ42 (Or.inl ⟨?hw42, ?hy42⟩) (by assumption) ?hrest42
              case hi42 => simp only [List.getElem?_toArray]; rfl
              case hs42 => kernel_rfl
              case hf42 => kernel_rfl
              case hr42 => kernel_rfl
              case hQ42 => exact fun _ _ _ h => h
              case hw42 => rfl
              case hy42 => intro w hSw; (try dsimp only at hSw); go_simp; try with_reducible rfl
              try simp only [Act.put, List.setIfInBounds_toArray, List.set_cons_zero, List.set_cons_succ]
              refine' wpAnyH_take (i := 2) (oi := _) (v := _) ?hi43 ?hs43 ?hf43 ?hr43 ?hQ43 (Or.inl ⟨?hw43, ?hy43⟩) (by assumption) ?hrest43
              case hi43 => simp only [List.getElem?_toArray]; rfl
              case hs43 => kernel_rfl
              case hf43 => kernel_rfl
              case hr43 => kernel_rfl
              case hQ43 => exact fun _ _ _ h => h
              case hw43 => rfl
              case hy43 => intro w hSw; (try dsimp only at hSw); go_simp; try with_reducible rfl
              try simp only [Act.put, List.setIfInBounds_toArray, List.set_cons_zero, List.set_cons_succ]
              refine' wpAnyH_take (i := 3) (oi := _) (v := _) ?hi44 ?hs44 ?hf44 ?hr44 ?hQ44 (Or.inl ⟨?hw44, ?hy44⟩) (by assumption) ?hrest44
              case hi44 => simp only [List.getElem?_toArray]; rfl
              case hs44 => kernel_rfl
              case hf44 => kernel_rfl
              case hr44 => kernel_rfl
              case hQ44 => exact fun _ _ _ h => h
              case hw44 => rfl
              case hy44 => intro w hSw; (try dsimp only at hSw); go_simp; try with_reducible rfl
              try simp only [Act.put, List.setIfInBounds_toArray, List.set_cons_zero, List.set_cons_succ]
              refine' wpAnyH_take (i := 4) (oi := _) (v := _) ?hi45 ?hs45 ?hf45 ?hr45 ?hQ45 (Or.inl ⟨?hw45, ?hy45⟩) (by assumption) ?hrest45
              case hi45 => simp only [List.getElem?_toArray]; rfl
              case hs45 => kernel_rfl
              case hf45 => kernel_rfl
              case hr45 => kernel_rfl
              case hQ45 => exact fun _ _ _ h => h
              case hw45 => rfl
              case hy45 => intro w hSw; (try dsimp only at hSw); go_simp; try with_reducible rfl
              try simp only [Act.put, List.setIfInBounds_toArray, List.set_cons_zero, List.set_cons_succ]
              refine' wpAnyH_take (i := 5) (oi := _) (v := _) ?hi46 ?hs46 ?hf46 ?hr46 ?hQ46 (Or.inl ⟨?hw46, ?hy46⟩) (by assumption) ?hrest46
              case hi46 => simp only [List.getElem?_toArray]; rfl
              case hs46 => kernel_rfl
              case hf46 => kernel_rfl
              case hr46 => kernel_rfl
              case hQ46 => exact fun _ _ _ h => h
              case hw46 => rfl
              case hy46 => intro w hSw; (try dsimp only at hSw); go_simp; try with_reducible rfl
              try simp only [Act.put, List.setIfInBounds_toArray, List.set_cons_zero, List.set_cons_succ]
              refine' wpAnyH_take (i := 6) (oi := _) (v := _) ?hi47 ?hs47 ?hf47 ?hr47 ?hQ47 (Or.inl ⟨?hw47, ?hy47⟩) (by assumption) ?hrest47
              case hi47 => simp only [List.getElem?_toArray]; rfl
              case hs47 => kernel_rfl
              case hf47 => kernel_rfl
              case hr47 => kernel_rfl
              case hQ47 => exact fun _ _ _ h => h
              case hw47 => rfl
              case hy47 => intro w hSw; (try dsimp only at hSw); go_simp; try with_reducible rfl
              try simp only [Act.put, List.setIfInBounds_toArray, List.set_cons_zero, List.set_cons_succ]
              refine' wpAnyH_take (i := 7) (oi := _) (v := _) ?hi48 ?hs48 ?hf48 ?hr48 ?hQ48 (Or.inl ⟨?hw48, ?hy48⟩) (by assumption) ?hrest48
              case hi48 => simp only [List.getElem?_toArray]; rfl
              case hs48 => kernel_rfl
              case hf48 => kernel_rfl
              case hr48 => kernel_rfl
              case hQ48 => exact fun _ _ _ h => h
              case hw48 => rfl
              case hy48 => intro w hSw; (try dsimp only at hSw); go_simp; try with_reducible rfl
              try simp only [Act.put, List.setIfInBounds_toArray, List.set_cons_zero, List.set_cons_succ]
              refine' wpAnyH_take (i := 8) (oi := _) (v := _) ?hi49 ?hs49 ?hf49 ?hr49 ?hQ49 (Or.inl ⟨?hw49, ?hy49⟩) (by assumption) ?hrest49
              case hi49 => simp only [List.getElem?_toArray]; rfl
              case hs49 => kernel_rfl
              case hf49 => kernel_rfl
              case hr49 => kernel_rfl
              case hQ49 => exact fun _ _ _ h => h
              case hw49 => rfl
              case hy49 => intro w hSw; (try dsimp only at hSw); go_simp; try with_reducible rfl
              try simp only [Act.put, List.setIfInBounds_toArray, List.set_cons_zero, List.set_cons_succ]
              refine' wpAnyH_take (i := 9) (oi := _) (v := _) ?hi50 ?hs50 ?hf50 ?hr50 ?hQ50 (Or.inl ⟨?hw50, ?hy50⟩) (by assumption) ?hrest50
              case hi50 => simp only [List.getElem?_toArray]; rfl
              case hs50 => kernel_rfl
              case hf50 => kernel_rfl
              case hr50 => kernel_rfl
              case hQ50 => exact fun _ _ _ h => h
              case hw50 => rfl
              case hy50 => intro w hSw; (try dsimp only at hSw); go_simp; try with_reducible rfl
              try simp only [Act.put, List.setIfInBounds_toArray, List.set_cons_zero, List.set_cons_succ]
              refine' wpAnyH_take (i := 10) (oi := _) (v := _) ?hi51 ?hs51 ?hf51 ?hr51 ?hQ51 (Or.inl ⟨?hw51, ?hy51⟩) (by assumption) ?hrest51
              case hi51 => simp only [List.getElem?_toArray]; rfl
              case hs51 => kernel_rfl
              case hf51 => kernel_rfl
              case hr51 => kernel_rfl
              case hQ51 => exact fun _ _ _ h => h
              case hw51 => rfl
              case hy51 => intro w hSw; (try dsimp only at hSw); go_simp; try with_reducible rfl
              try simp only [Act.put, List.setIfInBounds_toArray, List.set_cons_zero, List.set_cons_succ]
              refine' wpAnyH_take (i := 11) (oi := _) (v := _) ?hi52 ?hs52 ?hf52 ?hr52 ?hQ52 (Or.inl ⟨?hw52, ?hy52⟩) (by assumption) ?hrest52
              case hi52 => simp only [List.getElem?_toArray]; rfl
              case hs52 => kernel_rfl
              case hf52 => kernel_rfl
              case hr52 => kernel_rfl
              case hQ52 => exact fun _ _ _ h => h
              case hw52 => rfl
              case hy52 => intro w hSw; (try dsimp only at hSw); go_simp; try with_reducible rfl
              try simp only [Act.put, List.setIfInBounds_toArray, List.set_cons_zero, List.set_cons_succ]
              refine' wpAnyH_take (i := 12) (oi := _) (v := _) ?hi53 ?hs53 ?hf53 ?hr53 ?hQ53 (Or.inl ⟨?hw53, ?hy53⟩) (by assumption) ?hrest53
              case hi53 => simp only [List.getElem?_toArray]; rfl
              case hs53 => kernel_rfl
              case hf53 => kernel_rfl
              case hr53 => kernel_rfl
              case hQ53 => exact fun _ _ _ h => h
              case hw53 => rfl
              case hy53 => intro w hSw; (try dsimp only at hSw); go_simp; try with_reducible rfl
              try simp only [Act.put, List.setIfInBounds_toArray, List.set_cons_zero, List.set_cons_succ]
              refine' wpAnyH_take (i := 13) (oi := _) (v := _) ?hi54 ?hs54 ?hf54 ?hr54 ?hQ54 (Or.inl ⟨?hw54, ?hy54⟩) (by assumption) ?hrest54
              case hi54 => simp only [List.getElem?_toArray]; rfl
              case hs54 => kernel_rfl
              case hf54 => kernel_rfl
              case hr54 => kernel_rfl
              case hQ54 => exact fun _ _ _ h => h
              case hw54 => rfl
              case hy54 => intro w hSw; (try dsimp only at hSw); go_simp; try with_reducible rfl
              try simp only [Act.put, List.setIfInBounds_toArray, List.set_cons_zero, List.set_cons_succ]
              refine' wpAnyH_take (i := 14) (oi := _) (v := _) ?hi55 ?hs55 ?hf55 ?hr55 ?hQ55 (Or.inl ⟨?hw55, ?hy55⟩) (by assumption) ?hrest55
              case hi55 => simp only [List.getElem?_toArray]; rfl
              case hs55 => kernel_rfl
              case hf55 => kernel_rfl
              case hr55 => kernel_rfl
              case hQ55 => exact fun _ _ _ h => h
              case hw55 => rfl
              case hy55 => intro w hSw; (try dsimp only at hSw); go_simp; try with_reducible rfl
              try simp only [Act.put, List.setIfInBounds_toArray, List.set_cons_zero, List.set_cons_succ]
              refine' wpAnyH_take (i := 15) (oi := _) (v := _) ?hi56 ?hs56 ?hf56 ?hr56 ?hQ56 (Or.inl ⟨?hw56, ?hy56⟩) (by assumption) ?hrest56
              case hi56 => simp only [List.getElem?_toArray]; rfl
              case hs56 => kernel_rfl
              case hf56 => kernel_rfl
              case hr56 => kernel_rfl
              case hQ56 => exact fun _ _ _ h => h
              case hw56 => rfl
              case hy56 => intro w hSw; (try dsimp only at hSw); go_simp; try with_reducible rfl
              try simp only [Act.put, List.setIfInBounds_toArray, List.set_cons_zero, List.set_cons_succ]
              refine' wpAnyH_take (i := 16) (oi := _) (v := _) ?hi57 ?hs57 ?hf57 ?hr57 ?hQ57 (Or.inl ⟨?hw57, ?hy57⟩) (by assumption) ?hrest57
              case hi57 => simp only [List.getElem?_toArray]; rfl
              case hs57 => kernel_rfl
              case hf57 => kernel_rfl
              case hr57 => kernel_rfl
              case hQ57 => exact fun _ _ _ h => h
              case hw57 => rfl
              case hy57 => intro w hSw; (try dsimp only at hSw); go_simp; try with_reducible rfl
              try simp only [Act.put, List.setIfInBounds_toArray, List.set_cons_zero, List.set_cons_succ]
              refine' wpAnyH_take (i := 17) (oi := _) (v := _) ?hi58 ?hs58 ?hf58 ?hr58 ?hQ58 (Or.inl ⟨?hw58, ?hy58⟩) (by assumption) ?hrest58
              case hi58 => simp only [List.getElem?_toArray]; rfl
              case hs58 => kernel_rfl
              case hf58 => kernel_rfl
              case hr58 => kernel_rfl
              case hQ58 => exact fun _ _ _ h => h
              case hw58 => rfl
              case hy58 => intro w hSw; (try dsimp only at hSw); go_simp; try with_reducible rfl
              try simp only [Act.put, List.setIfInBounds_toArray, List.set_cons_zero, List.set_cons_succ]
              refine' wpAnyH_take (i := 18) (oi := _) (v := _) ?hi59 ?hs59 ?hf59 ?hr59 ?hQ59 (Or.inl ⟨?hw59, ?hy59⟩) (by assumption) ?hrest59
              case hi59 => simp only [List.getElem?_toArray]; rfl
              case hs59 => kernel_rfl
              case hf59 => kernel_rfl
              case hr59 => kernel_rfl
              case hQ59 => exact fun _ _ _ h => h
              case hw59 => rfl
              case hy59 => intro w hSw; (try dsimp only at hSw); go_simp; try with_reducible rfl
              try simp only [Act.put, List.setIfInBounds_toArray, List.set_cons_zero, List.set_cons_succ]
              refine' wpAnyH_take (i := 19) (oi := _) (v := _) ?hi60 ?hs60 ?hf60 ?hr60 ?hQ60 (Or.inl ⟨?hw60, ?hy60⟩) (by assumption) ?hrest60
              case hi60 => simp only [List.getElem?_toArray]; rfl
              case hs60 => kernel_rfl
              case hf60 => kernel_rfl
              case hr60 => kernel_rfl
              case hQ60 => exact fun _ _ _ h => h
              case hw60 => rfl
              case hy60 => intro w hSw; (try dsimp only at hSw); go_simp; try with_reducible rfl
              try simp only [Act.put, List.setIfInBounds_toArray, List.set_cons_zero, List.set_cons_succ]
              refine' wpAnyH_take (i := 20) (oi := _) (v := _) ?hi61 ?hs61 ?hf61 ?hr61 ?hQ61 (Or.inl ⟨?hw61, ?hy61⟩) (by assumption) ?hrest61
              case hi61 => simp only [List.getElem?_toArray]; rfl
              case hs61 => kernel_rfl
              case hf61 => kernel_rfl
              case hr61 => kernel_rfl
              case hQ61 => exact fun _ _ _ h => h
              case hw61 => rfl
              case hy61 => intro w hSw; (try dsimp only at hSw); go_simp; try with_reducible rfl
              try simp only [Act.put, List.setIfInBounds_toArray, List.set_cons_zero, List.set_cons_succ]
              have HSX := Lib.hid (fun (wz : World) (h : Ext w6 wz) => h.cell c0)
              have hal : a ≤ (frmsB recs).length := by omega
              refine' wpAnyH_take (i := 21) (oi := _) (v := _) ?hi149 ?hs149 ?hf149 ?hr149 ?hQ149 (Or.inl ⟨?hw149, ?hy149⟩) (by assumption) ?hrest149
              case hi149 => simp only [List.getElem?_toArray]; rfl
              case hs149 => kernel_rfl
              case hf149 => kernel_rfl
              case hr149 => kernel_rfl
              case hQ149 => exact fun _ _ _ h => h
              case hw149 => rfl
              case hy149 => intro w hSw; (try dsimp only at hSw); go_simp; try with_reducible rfl
              try simp only [Act.put, List.setIfInBounds_toArray, List.set_cons_zero, List.set_cons_succ]
              refine' wpAnyH_take (i := 22) (oi := _) (v := _) ?hi150 ?hs150 ?hf150 ?hr150 ?hQ150 (Or.inl ⟨?hw150, ?hy150⟩) (by assumption) ?hrest150
              case hi150 => simp only [List.getElem?_toArray]; rfl
              case hs150 => kernel_rfl
              case hf150 => kernel_rfl
              case hr150 => kernel_rfl
              case hQ150 => exact fun _ _ _ h => h
              case hw150 => rfl
              case hy150 => intro w hSw; (try dsimp only at hSw); go_simp; try with_reducible rfl
              try simp only [Act.put, List.setIfInBounds_toArray, List.set_cons_zero, List.set_cons_succ]
              refine' wpAnyH_take (i := 23) (oi := _) (v := _) ?hi151 ?hs151 ?hf151 ?hr151 ?hQ151 (Or.inl ⟨?hw151, ?hy151⟩) (by assumption) ?hrest151
              case hi151 => simp only [List.getElem?_toArray]; rfl
              case hs151 => kernel_rfl
              case hf151 => kernel_rfl
              case hr151 => kernel_rfl
              case hQ151 => exact fun _ _ _ h => h
              case hw151 => rfl
              case hy151 => intro w hSw; (try dsimp only at hSw); go_simp; try with_reducible rfl
              try simp only [Act.put, List.setIfInBounds_toArray, List.set_cons_zero, List.set_cons_succ]
              refine' wpAnyH_take (i := 24) (oi := _) (v := _) ?hi152 ?hs152 ?hf152 ?hr152 ?hQ152 (Or.inl ⟨?hw152, ?hy152⟩) (by assumption) ?hrest152
              case hi152 => simp only [List.getElem?_toArray]; rfl
              case hs152 => kernel_rfl
              case hf152 => kernel_rfl
              case hr152 => kernel_rfl
              case hQ152 => exact fun _ _ _ h => h
              case hw152 => rfl
              case hy152 => intro w hSw; (try dsimp only at hSw); go_simp; try with_reducible rfl
              try simp only [Act.put, List.setIfInBounds_toArray, List.set_cons_zero, List.set_cons_succ]
              refine' wpAnyH_take (i := 26) (oi := _) (v := _) ?hi153 ?hs153 ?hf153 ?hr153 ?hQ153 (Or.inl ⟨?hw153, ?hy153⟩) (by assumption) ?hrest153
              case hi153 => simp only [List.getElem?_toArray]; rfl
              case hs153 => kernel_rfl
              case hf153 => kernel_rfl
              case hr153 => kernel_rfl
              case hQ153 => exact fun _ _ _ h => h
              case hw153 => rfl
              case hy153 => intro w hSw; (try dsimp only at hSw); go_simp; try with_reducible rfl
              try simp only [Act.put, List.setIfInBounds_toArray, List.set_cons_zero, List.set_cons_succ]
              refine' wpAnyH_take (i := 27) (oi := _) (v := _) ?hi154 ?hs154 ?hf154 ?hr154 ?hQ154 (Or.inl ⟨?hw154, ?hy154⟩) (by assumption) ?hrest154
              case hi154 => simp only [List.getElem?_toArray]; rfl
              case hs154 => kernel_rfl
              case hf154 => kernel_rfl
              case hr154 => kernel_rfl
              case hQ154 => exact fun _ _ _ h => h
              case hw154 => rfl
              case hy154 => intro w hSw; (try dsimp only at hSw); go_simp; try with_reducible rfl
              try simp only [Act.put, List.setIfInBounds_toArray, List.set_cons_zero, List.set_cons_succ]
              refine' wpAnyH_take (i := 28) (oi := _) (v := _) ?hi155 ?hs155 ?hf155 ?hr155 ?hQ155 (Or.inl ⟨?hw155, ?hy155⟩) (by assumption) ?hrest155
              case hi155 => simp only [List.getElem?_toArray]; rfl
              case hs155 => kernel_rfl
              case hf155 => kernel_rfl
              case hr155 => kernel_rfl
              case hQ155 => exact fun _ _ _ h => h
              case hw155 => rfl
              case hy155 => intro w hSw; (try dsimp only at hSw); go_simp; try with_reducible rfl
              try simp only [Act.put, List.setIfInBounds_toArray, List.set_cons_zero, List.set_cons_succ]
              refine wpAnyH_ready (rs := [25]) (by kernel_rfl) (by simp) ?_
              refine' AllReadyH.cons (o := _) ?ho156 (fun K hK => ?hstep156) AllReadyH.nil
              case ho156 => simp only [List.getElem?_toArray]; rfl
              go_simp
              rw [HPRE.out]
              clear hal
              have HC7 := Lib.hid (HC6.out.ext hxt)
              have HOLD7 := Lib.hid (HOLD6.out.step (Kp.of_ext (L := bl mg tb2 rv2 L5) hxt) (Sub.refl _ _))
              have HU7 := Lib.hid (HU6.out.step (Kp.of_ext (L := bl mg tb2 rv2 L5) hxt) (Sub.refl _ _))
              have HX7 := Lib.hid (HX6.out.trans hxt)
              have htx := text_any g L5 _ v7 HC7.out.file
              dsimp only at htx
              refine htx.mono ?_
              rintro e _ ⟨rfl, rfl⟩
              refine hK.out _ _ ((HSX.out _ hxt)) (fun hHeld => ?_)
              clear hK K
              try simp only [Act.put, List.setIfInBounds_toArray, List.set_cons_zero, List.set_cons_succ]
              clear htx
              generalize bs (frmsB (recs.take q)) = fq
              refine' wpAnyH_take (i := 29) (oi := _) (v := _) ?hi158 ?hs158 ?hf158 ?hr158 ?hQ158 (Or.inl ⟨?hw158, ?hy158⟩) (by assumption) ?hrest158
              case hi158 => simp only [List.getElem?_toArray]; rfl
              case hs158 => kernel_rfl
              case hf158 => kernel_rfl
              case hr158 => kernel_rfl
              case hQ158 => exact fun _ _ _ h => h
              case hw158 => rfl
              case hy158 => intro w hSw; (try dsimp only at hSw); go_simp; try with_reducible rfl
              try simp only [Act.put, List.setIfInBounds_toArray, List.set_cons_zero, List.set_cons_succ]
              refine' wpAnyH_take (i := 30) (oi := _) (v := _) ?hi159 ?hs159 ?hf159 ?hr159 ?hQ159 (Or.inl ⟨?hw159, ?hy159⟩) (by assumption) ?hrest159
              case hi159 => simp only [List.getElem?_toArray]; rfl
              case hs159 => kernel_rfl
              case hf159 => kernel_rfl
              case hr159 => kernel_rfl
              case hQ159 => exact fun _ _ _ h => h
              case hw159 => rfl
              case hy159 => intro w hSw; (try dsimp only at hSw); go_simp; try with_reducible rfl
              try simp only [Act.put, List.setIfInBounds_toArray, List.set_cons_zero, List.set_cons_succ]
              refine' wpAnyH_take (i := 31) (oi := _) (v := _) ?hi160 ?hs160 ?hf160 ?hr160 ?hQ160 (Or.inl ⟨?hw160, ?hy160⟩) (by assumption) ?hrest160
              case hi160 => simp only [List.getElem?_toArray]; rfl
              case hs160 => kernel_rfl
              case hf160 => kernel_rfl
              case hr160 => kernel_rfl
              case hQ160 => exact fun _ _ _ h => h
              case hw160 => rfl
              case hy160 => intro w hSw; (try dsimp only at hSw); go_simp; try with_reducible rfl
              try simp only [Act.put, List.setIfInBounds_toArray, List.set_cons_zero, List.set_cons_succ]
              refine' wpAnyH_take (i := 32) (oi := _) (v := _) ?hi161 ?hs161 ?hf161 ?hr161 ?hQ161 (Or.inl ⟨?hw161, ?hy161⟩) (by assumption) ?hrest161
              case hi161 => simp only [List.getElem?_toArray]; rfl
              case hs161 => kernel_rfl
              case hf161 => kernel_rfl
              case hr161 => kernel_rfl
              case hQ161 => exact fun _ _ _ h => h
              case hw161 => rfl
              case hy161 => intro w hSw; (try dsimp only at hSw); go_simp; try with_reducible rfl
              try simp only [Act.put, List.setIfInBounds_toArray, List.set_cons_zero, List.set_cons_succ]
              refine' wpAnyH_take (i := 34) (oi := _) (v := _) ?hi162 ?hs162 ?hf162 ?hr162 ?hQ162 (Or.inl ⟨?hw162, ?hy162⟩) (by assumption) ?hrest162
              case hi162 => simp only [List.getElem?_toArray]; rfl
              case hs162 => kernel_rfl
              case hf162 => kernel_rfl
              case hr162 => kernel_rfl
              case hQ162 => exact fun _ _ _ h => h
              case hw162 => rfl
              case hy162 => intro w hSw; (try dsimp only at hSw); go_simp; try with_reducible rfl
              try simp only [Act.put, List.setIfInBounds_toArray, List.set_cons_zero, List.set_cons_succ]
              refine wpAnyH_ready (rs := [33]) (by kernel_rfl) (by simp) ?_
              refine' AllReadyH.cons (o := _) ?ho163 (fun K hK => ?hstep163) AllReadyH.nil
              case ho163 => simp only [List.getElem?_toArray]; rfl
              go_simp
              have hsu := sure_any g L5 _ v7 HC7.out.file
              dsimp only at hsu
              rw [← HA.out] at hsu
              refine hsu.mono ?_
              rintro e _ ⟨rfl, rfl⟩
              clear hsu
              refine hK.out _ _ ((HSX.out _ hxt)) (fun hHeld => ?_)
              clear hK K
              try simp only [Act.put, List.setIfInBounds_toArray, List.set_cons_zero, List.set_cons_succ]
              refine' wpAnyH_take (i := 35) (oi := _) (v := _) ?hi165 ?hs165 ?hf165 ?hr165 ?hQ165 (Or.inl ⟨?hw165, ?hy165⟩) (by assumption) ?hrest165
              case hi165 => simp only [List.getElem?_toArray]; rfl
              case hs165 => kernel_rfl
              case hf165 => kernel_rfl
              case hr165 => kernel_rfl
              case hQ165 => exact fun _ _ _ h => h
              case hw165 => rfl
              case hy165 => intro w hSw; (try dsimp only at hSw); go_simp; try with_reducible rfl
              try simp only [Act.put, List.setIfInBounds_toArray, List.set_cons_zero, List.set_cons_succ]
              refine' wpAnyH_take (i := 36) (oi := _) (v := _) ?hi166 ?hs166 ?hf166 ?hr166 ?hQ166 (Or.inl ⟨?hw166, ?hy166⟩) (by assumption) ?hrest166
              case hi166 => simp only [List.getElem?_toArray]; rfl
              case hs166 => kernel_rfl
              case hf166 => kernel_rfl
              case hr166 => kernel_rfl
              case hQ166 => exact fun _ _ _ h => h
              case hw166 => rfl
              case hy166 => intro w hSw; (try dsimp only at hSw); go_simp; try with_reducible rfl
              try simp only [Act.put, List.setIfInBounds_toArray, List.set_cons_zero, List.set_cons_succ]
              refine' wpAnyH_take (i := 37) (oi := _) (v := _) ?hi167 ?hs167 ?hf167 ?hr167 ?hQ167 (Or.inl ⟨?hw167, ?hy167⟩) (by assumption) ?hrest167
              case hi167 => simp only [List.getElem?_toArray]; rfl
              case hs167 => kernel_rfl
              case hf167 => kernel_rfl
              case hr167 => kernel_rfl
              case hQ167 => exact fun _ _ _ h => h
              case hw167 => rfl
              case hy167 => intro w hSw; (try dsimp only at hSw); go_simp; try with_reducible rfl
              try simp only [Act.put, List.setIfInBounds_toArray, List.set_cons_zero, List.set_cons_succ]
              refine' wpAnyH_take (i := 38) (oi := _) (v := _) ?hi168 ?hs168 ?hf168 ?hr168 ?hQ168 (Or.inl ⟨?hw168, ?hy168⟩) (by assumption) ?hrest168
              case hi168 => simp only [List.getElem?_toArray]; rfl
              case hs168 => kernel_rfl
              case hf168 => kernel_rfl
              case hr168 => kernel_rfl
              case hQ168 => exact fun _ _ _ h => h
              case hw168 => rfl
              case hy168 => intro w hSw; (try dsimp only at hSw); go_simp; try with_reducible rfl
              try simp only [Act.put, List.setIfInBounds_toArray, List.set_cons_zero, List.set_cons_succ]
              refine' wpAnyH_take (i := 40) (oi := _) (v := _) ?hi169 ?hs169 ?hf169 ?hr169 ?hQ169 (Or.inl ⟨?hw169, ?hy169⟩) (by assumption) ?hrest169
              case hi169 => simp only [List.getElem?_toArray]; rfl
              case hs169 => kernel_rfl
              case hf169 => kernel_rfl
              case hr169 => kernel_rfl
              case hQ169 => exact fun _ _ _ h => h
              case hw169 => rfl
              case hy169 => intro w hSw; (try dsimp only at hSw); go_simp; try with_reducible rfl
              try simp only [Act.put, List.setIfInBounds_toArray, List.set_cons_zero, List.set_cons_succ]
              refine' wpAnyH_take (i := 41) (oi := _) (v := _) ?hi170 ?hs170 ?hf170 ?hr170 ?hQ170 (Or.inl ⟨?hw170, ?hy170⟩) (by assumption) ?hrest170
              case hi170 => simp only [List.getElem?_toArray]; rfl
              case hs170 => kernel_rfl
              case hf170 => kernel_rfl
              case hr170 => kernel_rfl
              case hQ170 => exact fun _ _ _ h => h
              case hw170 => rfl
              case hy170 => intro w hSw; (try dsimp only at hSw); go_simp; try with_reducible rfl
              try simp only [Act.put, List.setIfInBounds_toArray, List.set_cons_zero, List.set_cons_succ]
              refine wpAnyH_ready (rs := [39]) (by kernel_rfl) (by simp) ?_
              refine' AllReadyH.cons (o := _) ?ho171 (fun K hK => ?hstep171) AllReadyH.nil
              case ho171 => simp only [List.getElem?_toArray]; rfl
              go_simp
              obtain ⟨o0, o1, o4, orv, ob, oo, _, _⟩ := HOLD7.out
              refine (lsure_core lg q o0 o1 orv o4 v7 ob).mono ?_
              rintro e _ ⟨rfl, rfl⟩
              clear ob oo
              refine hK.out _ _ ((HSX.out _ hxt)) (fun hHeld => ?_)
              clear hK K
              try simp only [Act.put, List.setIfInBounds_toArray, List.set_cons_zero, List.set_cons_succ]
              refine' wpAnyH_take (i := 42) (oi := _) (v := _) ?hi173 ?hs173 ?hf173 ?hr173 ?hQ173 (Or.inl ⟨?hw173, ?hy173⟩) (by assumption) ?hrest173
              case hi173 => simp only [List.getElem?_toArray]; rfl
              case hs173 => kernel_rfl
              case hf173 => kernel_rfl
              case hr173 => kernel_rfl
              case hQ173 => exact fun _ _ _ h => h
              case hw173 => rfl
              case hy173 => intro w hSw; (try dsimp only at hSw); go_simp; try with_reducible rfl
              try simp only [Act.put, List.setIfInBounds_toArray, List.set_cons_zero, List.set_cons_succ]
              refine' wpAnyH_take (i := 43) (oi := _) (v := _) ?hi174 ?hs174 ?hf174 ?hr174 ?hQ174 (Or.inl ⟨?hw174, ?hy174⟩) (by assumption) ?hrest174
              case hi174 => simp only [List.getElem?_toArray]; rfl
              case hs174 => kernel_rfl
              case hf174 => kernel_rfl
              case hr174 => kernel_rfl
              case hQ174 => exact fun _ _ _ h => h
              case hw174 => rfl
              case hy174 => intro w hSw; (try dsimp only at hSw); go_simp; try with_reducible rfl
              try simp only [Act.put, List.setIfInBounds_toArray, List.set_cons_zero, List.set_cons_succ]
              refine' wpAnyH_take (i := 44) (oi := _) (v := _) ?hi175 ?hs175 ?hf175 ?hr175 ?hQ175 (Or.inl ⟨?hw175, ?hy175⟩) (by assumption) ?hrest175
              case hi175 => simp only [List.getElem?_toArray]; rfl
              case hs175 => kernel_rfl
              case hf175 => kernel_rfl
              case hr175 => kernel_rfl
              case hQ175 => exact fun _ _ _ h => h
              case hw175 => rfl
              case hy175 => intro w hSw; (try dsimp only at hSw); go_simp; try with_reducible rfl
              try simp only [Act.put, List.setIfInBounds_toArray, List.set_cons_zero, List.set_cons_succ]
              refine' wpAnyH_take (i := 45) (oi := _) (v := _) ?hi176 ?hs176 ?hf176 ?hr176 ?hQ176 (Or.inl ⟨?hw176, ?hy176⟩) (by assumption) ?hrest176
              case hi176 => simp only [List.getElem?_toArray]; rfl
              case hs176 => kernel_rfl
              case hf176 => kernel_rfl
              case hr176 => kernel_rfl
              case hQ176 => exact fun _ _ _ h => h
              case hw176 => rfl
              case hy176 => intro w hSw; (try dsimp only at hSw); go_simp; try with_reducible rfl
              try simp only [Act.put, List.setIfInBounds_toArray, List.set_cons_zero, List.set_cons_succ]
              refine' wpAnyH_take (i := 47) (oi := _) (v := _) ?hi177 ?hs177 ?hf177 ?hr177 ?hQ177 (Or.inl ⟨?hw177, ?hy177⟩) (by assumption) ?hrest177
              case hi177 => simp only [List.getElem?_toArray]; rfl
              case hs177 => kernel_rfl
              case hf177 => kernel_rfl
              case hr177 => kernel_rfl
              case hQ177 => exact fun _ _ _ h => h
              case hw177 => rfl
              case hy177 => intro w hSw; (try dsimp only at hSw); go_simp; try with_reducible rfl
              try simp only [Act.put, List.setIfInBounds_toArray, List.set_cons_zero, List.set_cons_succ]
              refine wpAnyH_ready (rs := [46]) (by kernel_rfl) (by simp) ?_
              refine' AllReadyH.cons (o := _) ?ho178 (fun K hK => ?hstep178) AllReadyH.nil
              case ho178 => simp only [List.getElem?_toArray]; rfl
              go_simp
              refine (records_any mg tb2 rv2 L5 _ v7 HC7.out (by dsimp only; omega)).mono ?_
              dsimp only
              rintro e w8 ⟨u8, rfl, hu8, hx8⟩
              obtain ⟨A8, c8, rfl⟩ := own_len hu8
              have HT8 := Lib.hid (own_txt (own_base hu8))
              have HX8 := Lib.hid (hxt.trans hx8)
              have HTU8 := Lib.hid ((own_txt HU7.out.1).ext hx8)
              clear hu8 hx8
              rw [hjz] at HT8 ⊢
              refine hK.out _ _ ((HSX.out _ HX8.out)) (fun hHeld => ?_)
              clear hK K
              try simp only [Act.put, List.setIfInBounds_toArray, List.set_cons_zero, List.set_cons_succ]
              refine wpAnyH_ready (rs := [48]) (by kernel_rfl) (by simp) ?_
              refine' AllReadyH.cons (o := _) ?ho180 (fun K hK => ?hstep180) AllReadyH.nil
              case ho180 => simp only [List.getElem?_toArray]; rfl
              go_simp
              refine (same_yes _ _ (recs.take q) (recs.take q) w8 HT8.out HTU8.out rfl).mono ?_
              rintro e w9 ⟨rfl, hx9⟩
              have HX9 := Lib.hid (HX8.out.trans hx9)
              clear hx9
              refine hK.out _ _ ((HSX.out _ HX9.out)) (fun hHeld => ?_)
              clear hK K
              try simp only [Act.put, List.setIfInBounds_toArray, List.set_cons_zero, List.set_cons_succ]
              refine' wpAnyH_take (i := 49) (oi := _) (v := _) ?hi182 ?hs182 ?hf182 ?hr182 ?hQ182 (Or.inl ⟨?hw182, ?hy182⟩) (by assumption) ?hrest182
              case hi182 => simp only [List.getElem?_toArray]; rfl
              case hs182 => kernel_rfl
              case hf182 => kernel_rfl
              case hr182 => kernel_rfl
              case hQ182 => exact fun _ _ _ h => h
              case hw182 => rfl
              case hy182 => intro w hSw; (try dsimp only at hSw); go_simp; try with_reducible rfl
              try simp only [Act.put, List.setIfInBounds_toArray, List.set_cons_zero, List.set_cons_succ]
              refine' wpAnyH_take (i := 50) (oi := _) (v := _) ?hi183 ?hs183 ?hf183 ?hr183 ?hQ183 (Or.inl ⟨?hw183, ?hy183⟩) (by assumption) ?hrest183
              case hi183 => simp only [List.getElem?_toArray]; rfl
              case hs183 => kernel_rfl
              case hf183 => kernel_rfl
              case hr183 => kernel_rfl
              case hQ183 => exact fun _ _ _ h => h
              case hw183 => rfl
              case hy183 => intro w hSw; (try dsimp only at hSw); go_simp; try with_reducible rfl
              try simp only [Act.put, List.setIfInBounds_toArray, List.set_cons_zero, List.set_cons_succ]
              refine wpAnyH_ready (rs := [51]) (by kernel_rfl) (by simp) ?_
              refine' AllReadyH.cons (o := _) ?ho184 (fun K hK => ?hstep184) AllReadyH.nil
              case ho184 => simp only [List.getElem?_toArray]; rfl
              go_simp
              refine (known_any _).mono ?_
              rintro e w10 ⟨rfl, hx10⟩
              have HX10 := Lib.hid (HX9.out.trans hx10)
              clear hx10
              refine hK.out _ _ ((HSX.out _ HX10.out)) (fun hHeld => ?_)
              clear hK K
              try simp only [Act.put, List.setIfInBounds_toArray, List.set_cons_zero, List.set_cons_succ]
              refine' wpAnyH_take (i := 52) (oi := _) (v := _) ?hi186 ?hs186 ?hf186 ?hr186 ?hQ186 (Or.inl ⟨?hw186, ?hy186⟩) (by assumption) ?hrest186
              case hi186 => simp only [List.getElem?_toArray]; rfl
              case hs186 => kernel_rfl
              case hf186 => kernel_rfl
              case hr186 => kernel_rfl
              case hQ186 => exact fun _ _ _ h => h
              case hw186 => rfl
              case hy186 => intro w hSw; (try dsimp only at hSw); go_simp; try with_reducible rfl
              try simp only [Act.put, List.setIfInBounds_toArray, List.set_cons_zero, List.set_cons_succ]
              refine' wpAnyH_take (i := 53) (oi := _) (v := _) ?hi187 ?hs187 ?hf187 ?hr187 ?hQ187 (Or.inl ⟨?hw187, ?hy187⟩) (by assumption) ?hrest187
              case hi187 => simp only [List.getElem?_toArray]; rfl
              case hs187 => kernel_rfl
              case hf187 => kernel_rfl
              case hr187 => kernel_rfl
              case hQ187 => exact fun _ _ _ h => h
              case hw187 => rfl
              case hy187 => intro w hSw; (try dsimp only at hSw); go_simp; try with_reducible rfl
              try simp only [Act.put, List.setIfInBounds_toArray, List.set_cons_zero, List.set_cons_succ]
              refine wpAnyH_done (by kernel_rfl) ?_ _
              go_wp2_with fail
              go_ret
              exact ⟨rfl, HX6.out.trans HX10.out⟩
    · have hkI : ¬ (k : Int) < (n : Int) := by omega
      obtain ⟨Ai, ci, rfl⟩ := own_len HIO.out
      have hfz2 := bs_size (frmsB recs)
      obtain ⟨kk, hkk⟩ : ∃ kk, kk = ct % ((frmsB recs).length + 1) := ⟨_, rfl⟩
      have hkl : kk ≤ (frmsB recs).length := by
        have := Nat.mod_lt ct (show 0 < (frmsB recs).length + 1 by omega)
        omega
      have hkI9 : (ct : Int) % (((frmsB recs).length : Int) + 1) = (kk : Int) := by rw [hkk]; simp
      have HG := Lib.hid (fun x hx => (HRG.out x hx).1)
      have HKL := Lib.hid hkl
      clear hkk
      go_upto_region 11 with fail
      rw [hkI9]
      clear hkI9
      have hkJ9 : (0 : Int) ≤ (kk : Int) ∧ (kk : Int) ≤ ((bs (frmsB recs)).size : Int) := by omega
      go_wp2_with fail
      refine (new_own w _ HX.out).mono ?_
      rintro e w1 ⟨g, rfl, ⟨L, hxL, hfL, hbL, hoL⟩, hx1⟩
      have HR1 := Lib.hid (rowK_file (own_base (HIO.out.ext hx1)) hfL)
      have HX1 := Lib.hid hxL
      have HB1 := Lib.hid hbL
      have HF1 := Lib.hid hfL
      obtain ⟨j, hj, hop, hjl, hjn⟩ := open_cut HG.out g kk 0 hkl
      have HOP := Lib.hid hop
      have HJN := Lib.hid hjn
      have hcz : (cutS (bs (frmsB recs)) kk).size = kk := cutS_size _ _ (by omega)
      have hap := append_empty (cutS (bs (frmsB recs)) kk) (by omega)
      have hok2 := ok_of hap (St.Ok.empty.append _)
      clear hx1 hxL hbL hoL hop hjn
      go_wp2_with fail
      rw [extract_cut]
      have hcall := append_did g L St.empty (cutS (bs (frmsB recs)) kk) w1 HF1.out St.Ok.empty (by omega)
      rw [hap] at hcall
      refine hcall.mono ?_
      rintro e w2 ⟨rfl, hk2, L2, hf2, hs2⟩
      have HF2 := Lib.hid hf2
      have HX2 : Hid (Ext w w2) := Lib.hid (hk2.to_ext HX1.out HB1.out)
      have HR2 := Lib.hid (HR1.out.step hk2 hs2)
      have HB2 : Hid (∀ k ∈ L2, w.heap.size ≤ k) := Lib.hid (fun k hm => (hs2 k hm).elim (HB1.out k) (fun hh => Nat.le_trans HX1.out.size hh))
      clear hcall hk2 hf2 hs2 hap hfL
      go_wp2_with fail
      refine (open_any g L2 _ w2 HF2.out hok2).mono ?_
      rintro e w3 ⟨lg, tb, rv, L3, rfl, hc3, hk3, hs3⟩
      rw [HOP.out] at hc3
      have HOK3 : Hid (St.Ok ⟨bs (frmsB (recs.take j)), (frmsB (recs.take j)).length, none, none⟩) := Lib.hid (by
        have h := openL_ok hok2 g
        rw [HOP.out] at h
        exact h)
      have HC3 := Lib.hid hc3
      have HR3 := Lib.hid (HR2.out.step hk3 hs3)
      have HX3 : Hid (Ext w w3) := Lib.hid (hk3.to_ext HX2.out HB2.out)
      have HB3 : Hid (∀ k ∈ bl lg tb rv L3, w.heap.size ≤ k) := Lib.hid (fun k hm => (hs3 k hm).elim (HB2.out k) (fun hh => Nat.le_trans HX2.out.size hh))
      clear hc3 hk3 hs3 hok2 hcz
      go_wp2_with fail
      refine (records_any lg tb rv L3 _ w3 HC3.out (by dsimp only; rw [List.length_take]; omega)).mono ?_
      rintro e w4 ⟨u4, rfl, hu4, hx4⟩
      dsimp only at hu4
      have HC4 := Lib.hid (HC3.out.ext hx4)
      have HX4 := Lib.hid (HX3.out.trans hx4)
      have HR4 := Lib.hid (HR3.out.step (Kp.of_ext (L := bl lg tb rv L3) hx4) (Sub.refl _ _))
      have HU4 : Hid (RowK w4 u4 (recs.take j) (bl lg tb rv L3)) := Lib.hid ⟨own_base hu4, fun k hk hm => by
        have h1 := own_new hu4 k hk
        have h2 := HC3.out.lts k hm
        omega⟩
      obtain ⟨Au, cu, rfl⟩ := own_len hu4
      have hjz : (recs.take j).length = j := by rw [List.length_take]; omega
      have HRU := Lib.hid (txt_rd (own_txt HU4.out.1))
      have HGT : Hid (∀ x ∈ recs.take j, good x.toList ∧ x.size ≤ 300) := Lib.hid (fun x hx => HRG.out x (List.mem_of_mem_take hx))
      clear hu4 hx4
      rw [hjz] at HU4 ⊢
      go_wp2_with fail
      go_loopw [14, 15] (fun sz iv wz => ∃ q a : Nat, q ≤ j ∧ sz = .int .i64 (a : Int) ∧ iv = .int .i64 (q : Int) ∧ a = (frmsB (recs.take q)).length ∧ Ext w4 wz) (fun _ iv _ => j - (intOf iv).toNat)
      case atStart => exact ⟨0, 0, by omega, rfl, rfl, rfl, Ext.refl _⟩
      case round =>
        obtain ⟨q, a, hq, rfl, rfl, ha, hxz⟩ := hrel
        have HA := Lib.hid ha
        have HXZ := Lib.hid hxz
        have hakk : a ≤ kk := by have := frms_mono recs hq; omega
        clear ha hxz
        by_cases hqj : q < j
        · have hqI : (q : Int) < (j : Int) := by omega
          have hqJ : (0 : Int) ≤ (q : Int) := by omega
          obtain ⟨s, hsk⟩ : ∃ s, recs[q]? = some s := ⟨_, List.getElem?_eq_getElem (by omega)⟩
          obtain ⟨ad, rfl, hcell⟩ := (HRU.out.ext HXZ.out).some_ (by rw [List.length_map, hjz]; omega)
          have c0 := hcell q (.string s) (by rw [List.getElem?_map, List.getElem?_take_of_lt hqj, hsk]; rfl)
          have hnx := frms_next hsk (HRG.out s (List.mem_of_getElem? hsk)).1
          rw [← HA.out] at hnx
          have hak2 : a + s.size + 8 ≤ kk := by have := frms_mono recs (show q + 1 ≤ j from hqj); omega
          have HNX := Lib.hid hnx
          clear hcell hsk hnx
          go_wp2_with fail
          exact ⟨⟨q + 1, a + s.size + 8, by omega, by go_num, by go_num, HNX.out.symm, HXZ.out.trans (by first | exact Ext.refl _ | exact Ext.drew _)⟩, by simp [intOf]; omega⟩
        · have hqI : ¬ (q : Int) < (j : Int) := by omega
          obtain rfl : q = j := by omega
          go_wp2_with fail
          have HCZ := Lib.hid (HC4.out.ext HXZ.out)
          have hf : FileAt wr g L3 ⟨bs (frmsB (recs.take q)), (frmsB (recs.take q)).length, none, none⟩ := HCZ.out.file
          have hold : OldS wr lg (recs.take q) q L3 := ⟨_, _, _, rv, HCZ.out.blk, HCZ.out.own, HCZ.out.lg_file, HCZ.out.row_file⟩
          have hrz := (HR4.out.step (Kp.of_ext (L := bl lg tb rv L3) HXZ.out) (Sub.refl _ _)).mono (K' := L3) (fun k hk => mem_bl.2 (.inr (.inr (.inr hk))))
          have huz := (HU4.out.step (Kp.of_ext (L := bl lg tb rv L3) HXZ.out) (Sub.refl _ _)).mono (K' := L3) (fun k hk => mem_bl.2 (.inr (.inr (.inr hk))))
          refine (open_any g L3 _ wr hf HOK3.out).mono ?_
          rintro e w5 ⟨mg, tb2, rv2, L5, rfl, hc5, hk5, hs5⟩
          rw [open_frames (fun x hx => (HGT.out x hx).1)] at hc5
          have HC5 := Lib.hid hc5
          have HOLD5 := Lib.hid (hold.step hk5 hs5)
          have HR5 := Lib.hid (hrz.step hk5 hs5)
          have HU5 := Lib.hid (huz.step hk5 hs5)
          have HX5 : Hid (Ext w w5) := Lib.hid (hk5.to_ext (HX4.out.trans HXZ.out) (fun k hm => HB3.out k (mem_bl.2 (.inr (.inr (.inr hm))))))
          obtain ⟨A1, hA1, hsl1⟩ := cut_upto (P := Try.prog) 34 9 i0 1 Try.underlying34 hi0 hz1 (txt_rd (own_txt HR5.out.1)) (txt_cap (own_txt HR5.out.1)).1 q (q : Int) rfl hj
          have hT1 : Txt w5 (.slice A1 q ci) (recs.take q) := ⟨A1, q, ci, rfl, hjz, Nat.le_trans hj (txt_cap (own_txt HR5.out.1)).1, (txt_cap (own_txt HR5.out.1)).2, by rw [Nat.mul_one] at hA1; rw [List.map_take]; exact hA1⟩
          have HT1 := Lib.hid hT1
          clear hf hold hrz huz hc5 hk5 hs5 hA1 hT1
          have hjn : ¬ ((recs.length : Int) < (q : Int)) := by omega
          go_wp2_with fail
          refine (same_yes _ _ (recs.take q) (recs.take q) w5 (own_txt HU5.out.1) HT1.out rfl).mono ?_
          rintro e w6 ⟨rfl, hx6⟩
          have HC6 := Lib.hid (HC5.out.ext hx6)
          have HOLD6 := Lib.hid (HOLD5.out.step (Kp.of_ext (L := bl mg tb2 rv2 L5) hx6) (Sub.refl _ _))
          have HU6 := Lib.hid (HU5.out.step (Kp.of_ext (L := bl mg tb2 rv2 L5) hx6) (Sub.refl _ _))
          have HR6 := Lib.hid (HR5.out.step (Kp.of_ext (L := bl mg tb2 rv2 L5) hx6) (Sub.refl _ _))
          have HX6 := Lib.hid (HX5.out.trans hx6)
          have hpre : (bs (frmsB recs)).extract 0 a = bs (frmsB (recs.take q)) := by rw [HA.out]; exact frms_pre q
          have HPRE := Lib.hid hpre
          have hakI : ¬ ((kk : Int) < (a : Int)) := by omega
          clear hx6 hpre hsl1
          by_cases hqr : q = recs.length
          · subst hqr
            go_wp2_with fail
            refine wp_region_held_drew (S := (fun _ => True)) (by kernel_rfl) trivial (fun hHeld => ?_)
            have hxt : Ext w6 w6.drew := Ext.drew _
            generalize w6.drew = v7 at hxt hHeld ⊢
            have HSX := Lib.hid (fun (wz : World) (_ : Ext w6 wz) => trivial)
            refine' wpAnyH_take (i := 0) (oi := _) (v := _) ?hi64 ?hs64 ?hf64 ?hr64 ?hQ64 (Or.inl ⟨?hw64, ?hy64⟩) (by assumption) ?hrest64
            case hi64 => simp only [List.getElem?_toArray]; rfl
            case hs64 => kernel_rfl
            case hf64 => kernel_rfl
            case hr64 => kernel_rfl
            case hQ64 => exact fun _ _ _ h => h
            case hw64 => rfl
            case hy64 => intro w hSw; (try dsimp only at hSw); go_simp; try with_reducible rfl
            try simp only [Act.put, List.setIfInBounds_toArray, List.set_cons_zero, List.set_cons_succ]
            refine' wpAnyH_take (i := 1) (oi := _) (v := _) ?hi65 ?hs65 ?hf65 ?hr65 ?hQ65 (Or.inl ⟨?hw65, ?hy65⟩) (by assumption) ?hrest65
            case hi65 => simp only [List.getElem?_toArray]; rfl
            case hs65 => kernel_rfl
            case hf65 => kernel_rfl
            case hr65 => kernel_rfl
            case hQ65 => exact fun _ _ _ h => h
            case hw65 => rfl
            case hy65 => intro w hSw; (try dsimp only at hSw); go_simp; try with_reducible rfl
            try simp only [Act.put, List.setIfInBounds_toArray, List.set_cons_zero, List.set_cons_succ]
            refine' wpAnyH_take (i := 2) (oi := _) (v := _) ?hi66 ?hs66 ?hf66 ?hr66 ?hQ66 (Or.inl ⟨?hw66, ?hy66⟩) (by assumption) ?hrest66
            case hi66 => simp only [List.getElem?_toArray]; rfl
            case hs66 => kernel_rfl
            case hf66 => kernel_rfl
            case hr66 => kernel_rfl
            case hQ66 => exact fun _ _ _ h => h
            case hw66 => rfl
            case hy66 => intro w hSw; (try dsimp only at hSw); go_simp; try with_reducible rfl
            try simp only [Act.put, List.setIfInBounds_toArray, List.set_cons_zero, List.set_cons_succ]
            refine' wpAnyH_take (i := 3) (oi := _) (v := _) ?hi67 ?hs67 ?hf67 ?hr67 ?hQ67 (Or.inl ⟨?hw67, ?hy67⟩) (by assumption) ?hrest67
            case hi67 => simp only [List.getElem?_toArray]; rfl
            case hs67 => kernel_rfl
            case hf67 => kernel_rfl
            case hr67 => kernel_rfl
            case hQ67 => exact fun _ _ _ h => h
            case hw67 => rfl
            case hy67 => intro w hSw; (try dsimp only at hSw); go_simp; try with_reducible rfl
            try simp only [Act.put, List.setIfInBounds_toArray, List.set_cons_zero, List.set_cons_succ]
            refine' wpAnyH_take (i := 4) (oi := _) (v := _) ?hi68 ?hs68 ?hf68 ?hr68 ?hQ68 (Or.inl ⟨?hw68, ?hy68⟩) (by assumption) ?hrest68
            case hi68 => simp only [List.getElem?_toArray]; rfl
            case hs68 => kernel_rfl
            case hf68 => kernel_rfl
            case hr68 => kernel_rfl
            case hQ68 => exact fun _ _ _ h => h
            case hw68 => rfl
            case hy68 => intro w hSw; (try dsimp only at hSw); go_simp; try with_reducible rfl
            try simp only [Act.put, List.setIfInBounds_toArray, List.set_cons_zero, List.set_cons_succ]
            refine' wpAnyH_take (i := 5) (oi := _) (v := _) ?hi69 ?hs69 ?hf69 ?hr69 ?hQ69 (Or.inl ⟨?hw69, ?hy69⟩) (by assumption) ?hrest69
            case hi69 => simp only [List.getElem?_toArray]; rfl
            case hs69 => kernel_rfl
            case hf69 => kernel_rfl
            case hr69 => kernel_rfl
            case hQ69 => exact fun _ _ _ h => h
            case hw69 => rfl
            case hy69 => intro w hSw; (try dsimp only at hSw); go_simp; try with_reducible rfl
            try simp only [Act.put, List.setIfInBounds_toArray, List.set_cons_zero, List.set_cons_succ]
            refine' wpAnyH_take (i := 6) (oi := _) (v := _) ?hi70 ?hs70 ?hf70 ?hr70 ?hQ70 (Or.inl ⟨?hw70, ?hy70⟩) (by assumption) ?hrest70
            case hi70 => simp only [List.getElem?_toArray]; rfl
            case hs70 => kernel_rfl
            case hf70 => kernel_rfl
            case hr70 => kernel_rfl
            case hQ70 => exact fun _ _ _ h => h
            case hw70 => rfl
            case hy70 => intro w hSw; (try dsimp only at hSw); go_simp; try with_reducible rfl
            try simp only [Act.put, List.setIfInBounds_toArray, List.set_cons_zero, List.set_cons_succ]
            refine' wpAnyH_take (i := 7) (oi := _) (v := _) ?hi71 ?hs71 ?hf71 ?hr71 ?hQ71 (Or.inl ⟨?hw71, ?hy71⟩) (by assumption) ?hrest71
            case hi71 => simp only [List.getElem?_toArray]; rfl
            case hs71 => kernel_rfl
            case hf71 => kernel_rfl
            case hr71 => kernel_rfl
            case hQ71 => exact fun _ _ _ h => h
            case hw71 => rfl
            case hy71 => intro w hSw; (try dsimp only at hSw); go_simp; try with_reducible rfl
            try simp only [Act.put, List.setIfInBounds_toArray, List.set_cons_zero, List.set_cons_succ]
            refine' wpAnyH_take (i := 8) (oi := _) (v := _) ?hi72 ?hs72 ?hf72 ?hr72 ?hQ72 (Or.inl ⟨?hw72, ?hy72⟩) (by assumption) ?hrest72
            case hi72 => simp only [List.getElem?_toArray]; rfl
            case hs72 => kernel_rfl
            case hf72 => kernel_rfl
            case hr72 => kernel_rfl
            case hQ72 => exact fun _ _ _ h => h
            case hw72 => rfl
            case hy72 => intro w hSw; (try dsimp only at hSw); go_simp; try with_reducible rfl
            try simp only [Act.put, List.setIfInBounds_toArray, List.set_cons_zero, List.set_cons_succ]
            refine' wpAnyH_take (i := 9) (oi := _) (v := _) ?hi73 ?hs73 ?hf73 ?hr73 ?hQ73 (Or.inl ⟨?hw73, ?hy73⟩) (by assumption) ?hrest73
            case hi73 => simp only [List.getElem?_toArray]; rfl
            case hs73 => kernel_rfl
            case hf73 => kernel_rfl
            case hr73 => kernel_rfl
            case hQ73 => exact fun _ _ _ h => h
            case hw73 => rfl
            case hy73 => intro w hSw; (try dsimp only at hSw); go_simp; try with_reducible rfl
            try simp only [Act.put, List.setIfInBounds_toArray, List.set_cons_zero, List.set_cons_succ]
            refine' wpAnyH_take (i := 10) (oi := _) (v := undef) ?hi74 ?hs74 ?hf74 ?hr74 ?hQ74 (Or.inr ⟨?hw74, rfl⟩) (by assumption) ?hrest74
            case hi74 => simp only [List.getElem?_toArray]; rfl
            case hs74 => kernel_rfl
            case hf74 => kernel_rfl
            case hr74 => kernel_rfl
            case hQ74 => exact fun _ _ _ h => h
            case hw74 => rfl
            try simp only [Act.put, List.setIfInBounds_toArray, List.set_cons_zero, List.set_cons_succ]
            refine' wpAnyH_take (i := 11) (oi := _) (v := undef) ?hi75 ?hs75 ?hf75 ?hr75 ?hQ75 (Or.inr ⟨?hw75, rfl⟩) (by assumption) ?hrest75
            case hi75 => simp only [List.getElem?_toArray]; rfl
            case hs75 => kernel_rfl
            case hf75 => kernel_rfl
            case hr75 => kernel_rfl
            case hQ75 => exact fun _ _ _ h => h
            case hw75 => rfl
            try simp only [Act.put, List.setIfInBounds_toArray, List.set_cons_zero, List.set_cons_succ]
            refine' wpAnyH_take (i := 12) (oi := _) (v := undef) ?hi76 ?hs76 ?hf76 ?hr76 ?hQ76 (Or.inr ⟨?hw76, rfl⟩) (by assumption) ?hrest76
            case hi76 => simp only [List.getElem?_toArray]; rfl
            case hs76 => kernel_rfl
            case hf76 => kernel_rfl
            case hr76 => kernel_rfl
            case hQ76 => exact fun _ _ _ h => h
            case hw76 => rfl
            try simp only [Act.put, List.setIfInBounds_toArray, List.set_cons_zero, List.set_cons_succ]
            refine' wpAnyH_take (i := 13) (oi := _) (v := undef) ?hi77 ?hs77 ?hf77 ?hr77 ?hQ77 (Or.inr ⟨?hw77, rfl⟩) (by assumption) ?hrest77
            case hi77 => simp only [List.getElem?_toArray]; rfl
            case hs77 => kernel_rfl
            case hf77 => kernel_rfl
            case hr77 => kernel_rfl
            case hQ77 => exact fun _ _ _ h => h
            case hw77 => rfl
            try simp only [Act.put, List.setIfInBounds_toArray, List.set_cons_zero, List.set_cons_succ]
            refine' wpAnyH_take (i := 14) (oi := _) (v := undef) ?hi78 ?hs78 ?hf78 ?hr78 ?hQ78 (Or.inr ⟨?hw78, rfl⟩) (by assumption) ?hrest78
            case hi78 => simp only [List.getElem?_toArray]; rfl
            case hs78 => kernel_rfl
            case hf78 => kernel_rfl
            case hr78 => kernel_rfl
            case hQ78 => exact fun _ _ _ h => h
            case hw78 => rfl
            try simp only [Act.put, List.setIfInBounds_toArray, List.set_cons_zero, List.set_cons_succ]
            refine' wpAnyH_take (i := 15) (oi := _) (v := undef) ?hi79 ?hs79 ?hf79 ?hr79 ?hQ79 (Or.inr ⟨?hw79, rfl⟩) (by assumption) ?hrest79
            case hi79 => simp only [List.getElem?_toArray]; rfl
            case hs79 => kernel_rfl
            case hf79 => kernel_rfl
            case hr79 => kernel_rfl
            case hQ79 => exact fun _ _ _ h => h
            case hw79 => rfl
            try simp only [Act.put, List.setIfInBounds_toArray, List.set_cons_zero, List.set_cons_succ]
            refine' wpAnyH_take (i := 16) (oi := _) (v := undef) ?hi80 ?hs80 ?hf80 ?hr80 ?hQ80 (Or.inr ⟨?hw80, rfl⟩) (by assumption) ?hrest80
            case hi80 => simp only [List.getElem?_toArray]; rfl
            case hs80 => kernel_rfl
            case hf80 => kernel_rfl
            case hr80 => kernel_rfl
            case hQ80 => exact fun _ _ _ h => h
            case hw80 => rfl
            try simp only [Act.put, List.setIfInBounds_toArray, List.set_cons_zero, List.set_cons_succ]
            refine' wpAnyH_take (i := 17) (oi := _) (v := undef) ?hi81 ?hs81 ?hf81 ?hr81 ?hQ81 (Or.inr ⟨?hw81, rfl⟩) (by assumption) ?hrest81
            case hi81 => simp only [List.getElem?_toArray]; rfl
            case hs81 => kernel_rfl
            case hf81 => kernel_rfl
            case hr81 => kernel_rfl
            case hQ81 => exact fun _ _ _ h => h
            case hw81 => rfl
            try simp only [Act.put, List.setIfInBounds_toArray, List.set_cons_zero, List.set_cons_succ]
            refine' wpAnyH_take (i := 18) (oi := _) (v := undef) ?hi82 ?hs82 ?hf82 ?hr82 ?hQ82 (Or.inr ⟨?hw82, rfl⟩) (by assumption) ?hrest82
            case hi82 => simp only [List.getElem?_toArray]; rfl
            case hs82 => kernel_rfl
            case hf82 => kernel_rfl
            case hr82 => kernel_rfl
            case hQ82 => exact fun _ _ _ h => h
            case hw82 => rfl
            try simp only [Act.put, List.setIfInBounds_toArray, List.set_cons_zero, List.set_cons_succ]
            refine' wpAnyH_take (i := 19) (oi := _) (v := undef) ?hi83 ?hs83 ?hf83 ?hr83 ?hQ83 (Or.inr ⟨?hw83, rfl⟩) (by assumption) ?hrest83
            case hi83 => simp only [List.getElem?_toArray]; rfl
            case hs83 => kernel_rfl
            case hf83 => kernel_rfl
            case hr83 => kernel_rfl
            case hQ83 => exact fun _ _ _ h => h
            case hw83 => rfl
            try simp only [Act.put, List.setIfInBounds_toArray, List.set_cons_zero, List.set_cons_succ]
            refine' wpAnyH_take (i := 20) (oi := _) (v := undef) ?hi84 ?hs84 ?hf84 ?hr84 ?hQ84 (Or.inr ⟨?hw84, rfl⟩) (by assumption) ?hrest84
            case hi84 => simp only [List.getElem?_toArray]; rfl
            case hs84 => kernel_rfl
            case hf84 => kernel_rfl
            case hr84 => kernel_rfl
            case hQ84 => exact fun _ _ _ h => h
            case hw84 => rfl
            try simp only [Act.put, List.setIfInBounds_toArray, List.set_cons_zero, List.set_cons_succ]
            have hal : a ≤ (frmsB recs).length := by omega
            refine' wpAnyH_take (i := 21) (oi := _) (v := _) ?hi189 ?hs189 ?hf189 ?hr189 ?hQ189 (Or.inl ⟨?hw189, ?hy189⟩) (by assumption) ?hrest189
            case hi189 => simp only [List.getElem?_toArray]; rfl
            case hs189 => kernel_rfl
            case hf189 => kernel_rfl
            case hr189 => kernel_rfl
            case hQ189 => exact fun _ _ _ h => h
            case hw189 => rfl
            case hy189 => intro w hSw; (try dsimp only at hSw); go_simp; try with_reducible rfl
            try simp only [Act.put, List.setIfInBounds_toArray, List.set_cons_zero, List.set_cons_succ]
            refine' wpAnyH_take (i := 22) (oi := _) (v := _) ?hi190 ?hs190 ?hf190 ?hr190 ?hQ190 (Or.inl ⟨?hw190, ?hy190⟩) (by assumption) ?hrest190
            case hi190 => simp only [List.getElem?_toArray]; rfl
            case hs190 => kernel_rfl
            case hf190 => kernel_rfl
            case hr190 => kernel_rfl
            case hQ190 => exact fun _ _ _ h => h
            case hw190 => rfl
            case hy190 => intro w hSw; (try dsimp only at hSw); go_simp; try with_reducible rfl
            try simp only [Act.put, List.setIfInBounds_toArray, List.set_cons_zero, List.set_cons_succ]
            refine' wpAnyH_take (i := 23) (oi := _) (v := _) ?hi191 ?hs191 ?hf191 ?hr191 ?hQ191 (Or.inl ⟨?hw191, ?hy191⟩) (by assumption) ?hrest191
            case hi191 => simp only [List.getElem?_toArray]; rfl
            case hs191 => kernel_rfl
            case hf191 => kernel_rfl
            case hr191 => kernel_rfl
            case hQ191 => exact fun _ _ _ h => h
            case hw191 => rfl
            case hy191 => intro w hSw; (try dsimp only at hSw); go_simp; try with_reducible rfl
            try simp only [Act.put, List.setIfInBounds_toArray, List.set_cons_zero, List.set_cons_succ]
            refine' wpAnyH_take (i := 24) (oi := _) (v := _) ?hi192 ?hs192 ?hf192 ?hr192 ?hQ192 (Or.inl ⟨?hw192, ?hy192⟩) (by assumption) ?hrest192
            case hi192 => simp only [List.getElem?_toArray]; rfl
            case hs192 => kernel_rfl
            case hf192 => kernel_rfl
            case hr192 => kernel_rfl
            case hQ192 => exact fun _ _ _ h => h
            case hw192 => rfl
            case hy192 => intro w hSw; (try dsimp only at hSw); go_simp; try with_reducible rfl
            try simp only [Act.put, List.setIfInBounds_toArray, List.set_cons_zero, List.set_cons_succ]
            refine' wpAnyH_take (i := 26) (oi := _) (v := _) ?hi193 ?hs193 ?hf193 ?hr193 ?hQ193 (Or.inl ⟨?hw193, ?hy193⟩) (by assumption) ?hrest193
            case hi193 => simp only [List.getElem?_toArray]; rfl
            case hs193 => kernel_rfl
            case hf193 => kernel_rfl
            case hr193 => kernel_rfl
            case hQ193 => exact fun _ _ _ h => h
            case hw193 => rfl
            case hy193 => intro w hSw; (try dsimp only at hSw); go_simp; try with_reducible rfl
            try simp only [Act.put, List.setIfInBounds_toArray, List.set_cons_zero, List.set_cons_succ]
            refine' wpAnyH_take (i := 27) (oi := _) (v := _) ?hi194 ?hs194 ?hf194 ?hr194 ?hQ194 (Or.inl ⟨?hw194, ?hy194⟩) (by assumption) ?hrest194
            case hi194 => simp only [List.getElem?_toArray]; rfl
            case hs194 => kernel_rfl
            case hf194 => kernel_rfl
            case hr194 => kernel_rfl
            case hQ194 => exact fun _ _ _ h => h
            case hw194 => rfl
            case hy194 => intro w hSw; (try dsimp only at hSw); go_simp; try with_reducible rfl
            try simp only [Act.put, List.setIfInBounds_toArray, List.set_cons_zero, List.set_cons_succ]
            refine' wpAnyH_take (i := 28) (oi := _) (v := _) ?hi195 ?hs195 ?hf195 ?hr195 ?hQ195 (Or.inl ⟨?hw195, ?hy195⟩) (by assumption) ?hrest195
            case hi195 => simp only [List.getElem?_toArray]; rfl
            case hs195 => kernel_rfl
            case hf195 => kernel_rfl
            case hr195 => kernel_rfl
            case hQ195 => exact fun _ _ _ h => h
            case hw195 => rfl
            case hy195 => intro w hSw; (try dsimp only at hSw); go_simp; try with_reducible rfl
            try simp only [Act.put, List.setIfInBounds_toArray, List.set_cons_zero, List.set_cons_succ]
            refine wpAnyH_ready (rs := [25]) (by kernel_rfl) (by simp) ?_
            refine' AllReadyH.cons (o := _) ?ho196 (fun K hK => ?hstep196) AllReadyH.nil
            case ho196 => simp only [List.getElem?_toArray]; rfl
            go_simp
            rw [HPRE.out]
            clear hal
            have HC7 := Lib.hid (HC6.out.ext hxt)
            have HOLD7 := Lib.hid (HOLD6.out.step (Kp.of_ext (L := bl mg tb2 rv2 L5) hxt) (Sub.refl _ _))
            have HU7 := Lib.hid (HU6.out.step (Kp.of_ext (L := bl mg tb2 rv2 L5) hxt) (Sub.refl _ _))
            have HX7 := Lib.hid (HX6.out.trans hxt)
            have htx := text_any g L5 _ v7 HC7.out.file
            dsimp only at htx
            refine htx.mono ?_
            rintro e _ ⟨rfl, rfl⟩
            refine hK.out _ _ ((HSX.out _ hxt)) (fun hHeld => ?_)
            clear hK K
            try simp only [Act.put, List.setIfInBounds_toArray, List.set_cons_zero, List.set_cons_succ]
            clear htx
            generalize bs (frmsB (recs.take recs.length)) = fq
            refine' wpAnyH_take (i := 29) (oi := _) (v := _) ?hi198 ?hs198 ?hf198 ?hr198 ?hQ198 (Or.inl ⟨?hw198, ?hy198⟩) (by assumption) ?hrest198
            case hi198 => simp only [List.getElem?_toArray]; rfl
            case hs198 => kernel_rfl
            case hf198 => kernel_rfl
            case hr198 => kernel_rfl
            case hQ198 => exact fun _ _ _ h => h
            case hw198 => rfl
            case hy198 => intro w hSw; (try dsimp only at hSw); go_simp; try with_reducible rfl
            try simp only [Act.put, List.setIfInBounds_toArray, List.set_cons_zero, List.set_cons_succ]
            refine' wpAnyH_take (i := 30) (oi := _) (v := _) ?hi199 ?hs199 ?hf199 ?hr199 ?hQ199 (Or.inl ⟨?hw199, ?hy199⟩) (by assumption) ?hrest199
            case hi199 => simp only [List.getElem?_toArray]; rfl
            case hs199 => kernel_rfl
            case hf199 => kernel_rfl
            case hr199 => kernel_rfl
            case hQ199 => exact fun _ _ _ h => h
            case hw199 => rfl
            case hy199 => intro w hSw; (try dsimp only at hSw); go_simp; try with_reducible rfl
            try simp only [Act.put, List.setIfInBounds_toArray, List.set_cons_zero, List.set_cons_succ]
            refine' wpAnyH_take (i := 31) (oi := _) (v := _) ?hi200 ?hs200 ?hf200 ?hr200 ?hQ200 (Or.inl ⟨?hw200, ?hy200⟩) (by assumption) ?hrest200
            case hi200 => simp only [List.getElem?_toArray]; rfl
            case hs200 => kernel_rfl
            case hf200 => kernel_rfl
            case hr200 => kernel_rfl
            case hQ200 => exact fun _ _ _ h => h
            case hw200 => rfl
            case hy200 => intro w hSw; (try dsimp only at hSw); go_simp; try with_reducible rfl
            try simp only [Act.put, List.setIfInBounds_toArray, List.set_cons_zero, List.set_cons_succ]
            refine' wpAnyH_take (i := 32) (oi := _) (v := _) ?hi201 ?hs201 ?hf201 ?hr201 ?hQ201 (Or.inl ⟨?hw201, ?hy201⟩) (by assumption) ?hrest201
            case hi201 => simp only [List.getElem?_toArray]; rfl
            case hs201 => kernel_rfl
            case hf201 => kernel_rfl
            case hr201 => kernel_rfl
            case hQ201 => exact fun _ _ _ h => h
            case hw201 => rfl
            case hy201 => intro w hSw; (try dsimp only at hSw); go_simp; try with_reducible rfl
            try simp only [Act.put, List.setIfInBounds_toArray, List.set_cons_zero, List.set_cons_succ]
            refine' wpAnyH_take (i := 34) (oi := _) (v := _) ?hi202 ?hs202 ?hf202 ?hr202 ?hQ202 (Or.inl ⟨?hw202, ?hy202⟩) (by assumption) ?hrest202
            case hi202 => simp only [List.getElem?_toArray]; rfl
            case hs202 => kernel_rfl
            case hf202 => kernel_rfl
            case hr202 => kernel_rfl
            case hQ202 => exact fun _ _ _ h => h
            case hw202 => rfl
            case hy202 => intro w hSw; (try dsimp only at hSw); go_simp; try with_reducible rfl
            try simp only [Act.put, List.setIfInBounds_toArray, List.set_cons_zero, List.set_cons_succ]
            refine wpAnyH_ready (rs := [33]) (by kernel_rfl) (by simp) ?_
            refine' AllReadyH.cons (o := _) ?ho203 (fun K hK => ?hstep203) AllReadyH.nil
            case ho203 => simp only [List.getElem?_toArray]; rfl
            go_simp
            have hsu := sure_any g L5 _ v7 HC7.out.file
            dsimp only at hsu
            rw [← HA.out] at hsu
            refine hsu.mono ?_
            rintro e _ ⟨rfl, rfl⟩
            clear hsu
            refine hK.out _ _ ((HSX.out _ hxt)) (fun hHeld => ?_)
            clear hK K
            try simp only [Act.put, List.setIfInBounds_toArray, List.set_cons_zero, List.set_cons_succ]
            refine' wpAnyH_take (i := 35) (oi := _) (v := _) ?hi205 ?hs205 ?hf205 ?hr205 ?hQ205 (Or.inl ⟨?hw205, ?hy205⟩) (by assumption) ?hrest205
            case hi205 => simp only [List.getElem?_toArray]; rfl
            case hs205 => kernel_rfl
            case hf205 => kernel_rfl
            case hr205 => kernel_rfl
            case hQ205 => exact fun _ _ _ h => h
            case hw205 => rfl
            case hy205 => intro w hSw; (try dsimp only at hSw); go_simp; try with_reducible rfl
            try simp only [Act.put, List.setIfInBounds_toArray, List.set_cons_zero, List.set_cons_succ]
            refine' wpAnyH_take (i := 36) (oi := _) (v := _) ?hi206 ?hs206 ?hf206 ?hr206 ?hQ206 (Or.inl ⟨?hw206, ?hy206⟩) (by assumption) ?hrest206
            case hi206 => simp only [List.getElem?_toArray]; rfl
            case hs206 => kernel_rfl
            case hf206 => kernel_rfl
            case hr206 => kernel_rfl
            case hQ206 => exact fun _ _ _ h => h
            case hw206 => rfl
            case hy206 => intro w hSw; (try dsimp only at hSw); go_simp; try with_reducible rfl
            try simp only [Act.put, List.setIfInBounds_toArray, List.set_cons_zero, List.set_cons_succ]
            refine' wpAnyH_take (i := 37) (oi := _) (v := _) ?hi207 ?hs207 ?hf207 ?hr207 ?hQ207 (Or.inl ⟨?hw207, ?hy207⟩) (by assumption) ?hrest207
            case hi207 => simp only [List.getElem?_toArray]; rfl
            case hs207 => kernel_rfl
            case hf207 => kernel_rfl
            case hr207 => kernel_rfl
            case hQ207 => exact fun _ _ _ h => h
            case hw207 => rfl
            case hy207 => intro w hSw; (try dsimp only at hSw); go_simp; try with_reducible rfl
            try simp only [Act.put, List.setIfInBounds_toArray, List.set_cons_zero, List.set_cons_succ]
            refine' wpAnyH_take (i := 38) (oi := _) (v := _) ?hi208 ?hs208 ?hf208 ?hr208 ?hQ208 (Or.inl ⟨?hw208, ?hy208⟩) (by assumption) ?hrest208
            case hi208 => simp only [List.getElem?_toArray]; rfl
            case hs208 => kernel_rfl
            case hf208 => kernel_rfl
            case hr208 => kernel_rfl
            case hQ208 => exact fun _ _ _ h => h
            case hw208 => rfl
            case hy208 => intro w hSw; (try dsimp only at hSw); go_simp; try with_reducible rfl
            try simp only [Act.put, List.setIfInBounds_toArray, List.set_cons_zero, List.set_cons_succ]
            refine' wpAnyH_take (i := 40) (oi := _) (v := _) ?hi209 ?hs209 ?hf209 ?hr209 ?hQ209 (Or.inl ⟨?hw209, ?hy209⟩) (by assumption) ?hrest209
            case hi209 => simp only [List.getElem?_toArray]; rfl
            case hs209 => kernel_rfl
            case hf209 => kernel_rfl
            case hr209 => kernel_rfl
            case hQ209 => exact fun _ _ _ h => h
            case hw209 => rfl
            case hy209 => intro w hSw; (try dsimp only at hSw); go_simp; try with_reducible rfl
            try simp only [Act.put, List.setIfInBounds_toArray, List.set_cons_zero, List.set_cons_succ]
            refine' wpAnyH_take (i := 41) (oi := _) (v := _) ?hi210 ?hs210 ?hf210 ?hr210 ?hQ210 (Or.inl ⟨?hw210, ?hy210⟩) (by assumption) ?hrest210
            case hi210 => simp only [List.getElem?_toArray]; rfl
            case hs210 => kernel_rfl
            case hf210 => kernel_rfl
            case hr210 => kernel_rfl
            case hQ210 => exact fun _ _ _ h => h
            case hw210 => rfl
            case hy210 => intro w hSw; (try dsimp only at hSw); go_simp; try with_reducible rfl
            try simp only [Act.put, List.setIfInBounds_toArray, List.set_cons_zero, List.set_cons_succ]
            refine wpAnyH_ready (rs := [39]) (by kernel_rfl) (by simp) ?_
            refine' AllReadyH.cons (o := _) ?ho211 (fun K hK => ?hstep211) AllReadyH.nil
            case ho211 => simp only [List.getElem?_toArray]; rfl
            go_simp
            obtain ⟨o0, o1, o4, orv, ob, oo, _, _⟩ := HOLD7.out
            refine (lsure_core lg recs.length o0 o1 orv o4 v7 ob).mono ?_
            rintro e _ ⟨rfl, rfl⟩
            clear ob oo
            refine hK.out _ _ ((HSX.out _ hxt)) (fun hHeld => ?_)
            clear hK K
            try simp only [Act.put, List.setIfInBounds_toArray, List.set_cons_zero, List.set_cons_succ]
            refine' wpAnyH_take (i := 42) (oi := _) (v := _) ?hi213 ?hs213 ?hf213 ?hr213 ?hQ213 (Or.inl ⟨?hw213, ?hy213⟩) (by assumption) ?hrest213
            case hi213 => simp only [List.getElem?_toArray]; rfl
            case hs213 => kernel_rfl
            case hf213 => kernel_rfl
            case hr213 => kernel_rfl
            case hQ213 => exact fun _ _ _ h => h
            case hw213 => rfl
            case hy213 => intro w hSw; (try dsimp only at hSw); go_simp; try with_reducible rfl
            try simp only [Act.put, List.setIfInBounds_toArray, List.set_cons_zero, List.set_cons_succ]
            refine' wpAnyH_take (i := 43) (oi := _) (v := _) ?hi214 ?hs214 ?hf214 ?hr214 ?hQ214 (Or.inl ⟨?hw214, ?hy214⟩) (by assumption) ?hrest214
            case hi214 => simp only [List.getElem?_toArray]; rfl
            case hs214 => kernel_rfl
            case hf214 => kernel_rfl
            case hr214 => kernel_rfl
            case hQ214 => exact fun _ _ _ h => h
            case hw214 => rfl
            case hy214 => intro w hSw; (try dsimp only at hSw); go_simp; try with_reducible rfl
            try simp only [Act.put, List.setIfInBounds_toArray, List.set_cons_zero, List.set_cons_succ]
            refine' wpAnyH_take (i := 44) (oi := _) (v := _) ?hi215 ?hs215 ?hf215 ?hr215 ?hQ215 (Or.inl ⟨?hw215, ?hy215⟩) (by assumption) ?hrest215
            case hi215 => simp only [List.getElem?_toArray]; rfl
            case hs215 => kernel_rfl
            case hf215 => kernel_rfl
            case hr215 => kernel_rfl
            case hQ215 => exact fun _ _ _ h => h
            case hw215 => rfl
            case hy215 => intro w hSw; (try dsimp only at hSw); go_simp; try with_reducible rfl
            try simp only [Act.put, List.setIfInBounds_toArray, List.set_cons_zero, List.set_cons_succ]
            refine' wpAnyH_take (i := 45) (oi := _) (v := _) ?hi216 ?hs216 ?hf216 ?hr216 ?hQ216 (Or.inl ⟨?hw216, ?hy216⟩) (by assumption) ?hrest216
            case hi216 => simp only [List.getElem?_toArray]; rfl
            case hs216 => kernel_rfl
            case hf216 => kernel_rfl
            case hr216 => kernel_rfl
            case hQ216 => exact fun _ _ _ h => h
            case hw216 => rfl
            case hy216 => intro w hSw; (try dsimp only at hSw); go_simp; try with_reducible rfl
            try simp only [Act.put, List.setIfInBounds_toArray, List.set_cons_zero, List.set_cons_succ]
            refine' wpAnyH_take (i := 47) (oi := _) (v := _) ?hi217 ?hs217 ?hf217 ?hr217 ?hQ217 (Or.inl ⟨?hw217, ?hy217⟩) (by assumption) ?hrest217
            case hi217 => simp only [List.getElem?_toArray]; rfl
            case hs217 => kernel_rfl
            case hf217 => kernel_rfl
            case hr217 => kernel_rfl
            case hQ217 => exact fun _ _ _ h => h
            case hw217 => rfl
            case hy217 => intro w hSw; (try dsimp only at hSw); go_simp; try with_reducible rfl
            try simp only [Act.put, List.setIfInBounds_toArray, List.set_cons_zero, List.set_cons_succ]
            refine wpAnyH_ready (rs := [46]) (by kernel_rfl) (by simp) ?_
            refine' AllReadyH.cons (o := _) ?ho218 (fun K hK => ?hstep218) AllReadyH.nil
            case ho218 => simp only [List.getElem?_toArray]; rfl
            go_simp
            refine (records_any mg tb2 rv2 L5 _ v7 HC7.out (by dsimp only; omega)).mono ?_
            dsimp only
            rintro e w8 ⟨u8, rfl, hu8, hx8⟩
            obtain ⟨A8, c8, rfl⟩ := own_len hu8
            have HT8 := Lib.hid (own_txt (own_base hu8))
            have HX8 := Lib.hid (hxt.trans hx8)
            have HTU8 := Lib.hid ((own_txt HU7.out.1).ext hx8)
            clear hu8 hx8
            rw [hjz] at HT8 ⊢
            refine hK.out _ _ ((HSX.out _ HX8.out)) (fun hHeld => ?_)
            clear hK K
            try simp only [Act.put, List.setIfInBounds_toArray, List.set_cons_zero, List.set_cons_succ]
            refine wpAnyH_ready (rs := [48]) (by kernel_rfl) (by simp) ?_
            refine' AllReadyH.cons (o := _) ?ho220 (fun K hK => ?hstep220) AllReadyH.nil
            case ho220 => simp only [List.getElem?_toArray]; rfl
            go_simp
            refine (same_yes _ _ (recs.take recs.length) (recs.take recs.length) w8 HT8.out HTU8.out rfl).mono ?_
            rintro e w9 ⟨rfl, hx9⟩
            have HX9 := Lib.hid (HX8.out.trans hx9)
            clear hx9
            refine hK.out _ _ ((HSX.out _ HX9.out)) (fun hHeld => ?_)
            clear hK K
            try simp only [Act.put, List.setIfInBounds_toArray, List.set_cons_zero, List.set_cons_succ]
            refine' wpAnyH_take (i := 49) (oi := _) (v := _) ?hi222 ?hs222 ?hf222 ?hr222 ?hQ222 (Or.inl ⟨?hw222, ?hy222⟩) (by assumption) ?hrest222
            case hi222 => simp only [List.getElem?_toArray]; rfl
            case hs222 => kernel_rfl
            case hf222 => kernel_rfl
            case hr222 => kernel_rfl
            case hQ222 => exact fun _ _ _ h => h
            case hw222 => rfl
            case hy222 => intro w hSw; (try dsimp only at hSw); go_simp; try with_reducible rfl
            try simp only [Act.put, List.setIfInBounds_toArray, List.set_cons_zero, List.set_cons_succ]
            refine' wpAnyH_take (i := 50) (oi := _) (v := _) ?hi223 ?hs223 ?hf223 ?hr223 ?hQ223 (Or.inl ⟨?hw223, ?hy223⟩) (by assumption) ?hrest223
            case hi223 => simp only [List.getElem?_toArray]; rfl
            case hs223 => kernel_rfl
            case hf223 => kernel_rfl
            case hr223 => kernel_rfl
            case hQ223 => exact fun _ _ _ h => h
            case hw223 => rfl
            case hy223 => intro w hSw; (try dsimp only at hSw); go_simp; try with_reducible rfl
            try simp only [Act.put, List.setIfInBounds_toArray, List.set_cons_zero, List.set_cons_succ]
            refine wpAnyH_ready (rs := [51]) (by kernel_rfl) (by simp) ?_
            refine' AllReadyH.cons (o := _) ?ho224 (fun K hK => ?hstep224) AllReadyH.nil
            case ho224 => simp only [List.getElem?_toArray]; rfl
            go_simp
            refine (known_any _).mono ?_
            rintro e w10 ⟨rfl, hx10⟩
            have HX10 := Lib.hid (HX9.out.trans hx10)
            clear hx10
            refine hK.out _ _ ((HSX.out _ HX10.out)) (fun hHeld => ?_)
            clear hK K
            try simp only [Act.put, List.setIfInBounds_toArray, List.set_cons_zero, List.set_cons_succ]
            refine' wpAnyH_take (i := 52) (oi := _) (v := _) ?hi226 ?hs226 ?hf226 ?hr226 ?hQ226 (Or.inl ⟨?hw226, ?hy226⟩) (by assumption) ?hrest226
            case hi226 => simp only [List.getElem?_toArray]; rfl
            case hs226 => kernel_rfl
            case hf226 => kernel_rfl
            case hr226 => kernel_rfl
            case hQ226 => exact fun _ _ _ h => h
            case hw226 => rfl
            case hy226 => intro w hSw; (try dsimp only at hSw); go_simp; try with_reducible rfl
            try simp only [Act.put, List.setIfInBounds_toArray, List.set_cons_zero, List.set_cons_succ]
            refine' wpAnyH_take (i := 53) (oi := _) (v := _) ?hi227 ?hs227 ?hf227 ?hr227 ?hQ227 (Or.inl ⟨?hw227, ?hy227⟩) (by assumption) ?hrest227
            case hi227 => simp only [List.getElem?_toArray]; rfl
            case hs227 => kernel_rfl
            case hf227 => kernel_rfl
            case hr227 => kernel_rfl
            case hQ227 => exact fun _ _ _ h => h
            case hw227 => rfl
            case hy227 => intro w hSw; (try dsimp only at hSw); go_simp; try with_reducible rfl
            try simp only [Act.put, List.setIfInBounds_toArray, List.set_cons_zero, List.set_cons_succ]
            refine wpAnyH_done (by kernel_rfl) ?_ _
            go_wp2_with fail
            go_ret
            exact ⟨rfl, HX6.out.trans HX10.out⟩
          · have hqrI : ((q : Int) == (recs.length : Int)) = false := by simp; omega
            have hqlt : q < recs.length := by omega
            obtain ⟨s, hsk⟩ : ∃ s, recs[q]? = some s := ⟨_, List.getElem?_eq_getElem (by omega)⟩
            obtain ⟨ad, rfl, hcell⟩ := (Rd.some_ (txt_rd (own_txt HR6.out.1))) (by rw [List.length_map]; omega)
            have c0 := hcell q (.string s) (by rw [List.getElem?_map, hsk]; rfl)
            have hnx := HJN.out s hsk
            rw [← HA.out] at hnx
            have hnI : (kk : Int) < (a : Int) + (s.size : Int) + 8 := by omega
            have hnz : s.size ≤ 300 := (HRG.out s (List.mem_of_getElem? hsk)).2
            have hw1 : IntKind.i64.wrap ((a : Int) + (s.size : Int)) = (a : Int) + (s.size : Int) := IntWalk.i64_in _ (by omega)
            have hw2 : IntKind.i64.wrap ((a : Int) + (s.size : Int) + 8) = (a : Int) + (s.size : Int) + 8 := IntWalk.i64_in _ (by omega)
            clear hcell hsk hnx
            go_wp2_with fail
            refine wp_region_held_drew (S := (fun wz => wz.cell? (ad.add q) = some (.string s))) (by kernel_rfl) c0 (fun hHeld => ?_)
            have hxt : Ext w6 w6.drew := Ext.drew _
            generalize w6.drew = v7 at hxt hHeld ⊢
            refine' wpAnyH_take (i := 0) (oi := _) (v := _) ?hi87 ?hs87 ?hf87 ?hr87 ?hQ87 (Or.inl ⟨?hw87, ?hy87⟩) (by assumption) ?hrest87
            case hi87 => simp only [List.getElem?_toArray]; rfl
            case hs87 => kernel_rfl
            case hf87 => kernel_rfl
            case hr87 => kernel_rfl
            case hQ87 => exact fun _ _ _ h => h
            case hw87 => rfl
            case hy87 => intro w hSw; (try dsimp only at hSw); go_simp; try with_reducible rfl
            try simp only [Act.put, List.setIfInBounds_toArray, List.set_cons_zero, List.set_cons_succ]
            refine' wpAnyH_take (i := 1) (oi := _) (v := _) ?hi88 ?hs88 ?hf88 ?hr88 ?hQ88 (Or.inl ⟨?hw88, ?hy88⟩) (by assumption) ?hrest88
            case hi88 => simp only [List.getElem?_toArray]; rfl
            case hs88 => kernel_rfl
            case hf88 => kernel_rfl
            case hr88 => kernel_rfl
            case hQ88 => exact fun _ _ _ h => h
            case hw88 => rfl
            case hy88 => intro w hSw; (try dsimp only at hSw); go_simp; try with_reducible rfl
            try simp only [Act.put, List.setIfInBounds_toArray, List.set_cons_zero, List.set_cons_succ]
            refine' wpAnyH_take (i := 2) (oi := _) (v := _) ?hi89 ?hs89 ?hf89 ?hr89 ?hQ89 (Or.inl ⟨?hw89, ?hy89⟩) (by assumption) ?hrest89
            case hi89 => simp only [List.getElem?_toArray]; rfl
            case hs89 => kernel_rfl
            case hf89 => kernel_rfl
            case hr89 => kernel_rfl
            case hQ89 => exact fun _ _ _ h => h
            case hw89 => rfl
            case hy89 => intro w hSw; (try dsimp only at hSw); go_simp; try with_reducible rfl
            try simp only [Act.put, List.setIfInBounds_toArray, List.set_cons_zero, List.set_cons_succ]
            refine' wpAnyH_take (i := 3) (oi := _) (v := _) ?hi90 ?hs90 ?hf90 ?hr90 ?hQ90 (Or.inl ⟨?hw90, ?hy90⟩) (by assumption) ?hrest90
            case hi90 => simp only [List.getElem?_toArray]; rfl
            case hs90 => kernel_rfl
            case hf90 => kernel_rfl
            case hr90 => kernel_rfl
            case hQ90 => exact fun _ _ _ h => h
            case hw90 => rfl
            case hy90 => intro w hSw; (try dsimp only at hSw); go_simp; try with_reducible rfl
            try simp only [Act.put, List.setIfInBounds_toArray, List.set_cons_zero, List.set_cons_succ]
            refine' wpAnyH_take (i := 4) (oi := _) (v := _) ?hi91 ?hs91 ?hf91 ?hr91 ?hQ91 (Or.inl ⟨?hw91, ?hy91⟩) (by assumption) ?hrest91
            case hi91 => simp only [List.getElem?_toArray]; rfl
            case hs91 => kernel_rfl
            case hf91 => kernel_rfl
            case hr91 => kernel_rfl
            case hQ91 => exact fun _ _ _ h => h
            case hw91 => rfl
            case hy91 => intro w hSw; (try dsimp only at hSw); go_simp; try with_reducible rfl
            try simp only [Act.put, List.setIfInBounds_toArray, List.set_cons_zero, List.set_cons_succ]
            refine' wpAnyH_take (i := 5) (oi := _) (v := _) ?hi92 ?hs92 ?hf92 ?hr92 ?hQ92 (Or.inl ⟨?hw92, ?hy92⟩) (by assumption) ?hrest92
            case hi92 => simp only [List.getElem?_toArray]; rfl
            case hs92 => kernel_rfl
            case hf92 => kernel_rfl
            case hr92 => kernel_rfl
            case hQ92 => exact fun _ _ _ h => h
            case hw92 => rfl
            case hy92 => intro w hSw; (try dsimp only at hSw); go_simp; try with_reducible rfl
            try simp only [Act.put, List.setIfInBounds_toArray, List.set_cons_zero, List.set_cons_succ]
            refine' wpAnyH_take (i := 6) (oi := _) (v := _) ?hi93 ?hs93 ?hf93 ?hr93 ?hQ93 (Or.inl ⟨?hw93, ?hy93⟩) (by assumption) ?hrest93
            case hi93 => simp only [List.getElem?_toArray]; rfl
            case hs93 => kernel_rfl
            case hf93 => kernel_rfl
            case hr93 => kernel_rfl
            case hQ93 => exact fun _ _ _ h => h
            case hw93 => rfl
            case hy93 => intro w hSw; (try dsimp only at hSw); go_simp; try with_reducible rfl
            try simp only [Act.put, List.setIfInBounds_toArray, List.set_cons_zero, List.set_cons_succ]
            refine' wpAnyH_take (i := 7) (oi := _) (v := _) ?hi94 ?hs94 ?hf94 ?hr94 ?hQ94 (Or.inl ⟨?hw94, ?hy94⟩) (by assumption) ?hrest94
            case hi94 => simp only [List.getElem?_toArray]; rfl
            case hs94 => kernel_rfl
            case hf94 => kernel_rfl
            case hr94 => kernel_rfl
            case hQ94 => exact fun _ _ _ h => h
            case hw94 => rfl
            case hy94 => intro w hSw; (try dsimp only at hSw); go_simp; try with_reducible rfl
            try simp only [Act.put, List.setIfInBounds_toArray, List.set_cons_zero, List.set_cons_succ]
            refine' wpAnyH_take (i := 8) (oi := _) (v := _) ?hi95 ?hs95 ?hf95 ?hr95 ?hQ95 (Or.inl ⟨?hw95, ?hy95⟩) (by assumption) ?hrest95
            case hi95 => simp only [List.getElem?_toArray]; rfl
            case hs95 => kernel_rfl
            case hf95 => kernel_rfl
            case hr95 => kernel_rfl
            case hQ95 => exact fun _ _ _ h => h
            case hw95 => rfl
            case hy95 => intro w hSw; (try dsimp only at hSw); go_simp; try with_reducible rfl
            try simp only [Act.put, List.setIfInBounds_toArray, List.set_cons_zero, List.set_cons_succ]
            refine' wpAnyH_take (i := 9) (oi := _) (v := _) ?hi96 ?hs96 ?hf96 ?hr96 ?hQ96 (Or.inl ⟨?hw96, ?hy96⟩) (by assumption) ?hrest96
            case hi96 => simp only [List.getElem?_toArray]; rfl
            case hs96 => kernel_rfl
            case hf96 => kernel_rfl
            case hr96 => kernel_rfl
            case hQ96 => exact fun _ _ _ h => h
            case hw96 => rfl
            case hy96 => intro w hSw; (try dsimp only at hSw); go_simp; try with_reducible rfl
            try simp only [Act.put, List.setIfInBounds_toArray, List.set_cons_zero, List.set_cons_succ]
            refine' wpAnyH_take (i := 10) (oi := _) (v := _) ?hi97 ?hs97 ?hf97 ?hr97 ?hQ97 (Or.inl ⟨?hw97, ?hy97⟩) (by assumption) ?hrest97
            case hi97 => simp only [List.getElem?_toArray]; rfl
            case hs97 => kernel_rfl
            case hf97 => kernel_rfl
            case hr97 => kernel_rfl
            case hQ97 => exact fun _ _ _ h => h
            case hw97 => rfl
            case hy97 => intro w hSw; (try dsimp only at hSw); go_simp; try with_reducible rfl
            try simp only [Act.put, List.setIfInBounds_toArray, List.set_cons_zero, List.set_cons_succ]
            refine' wpAnyH_take (i := 11) (oi := _) (v := _) ?hi98 ?hs98 ?hf98 ?hr98 ?hQ98 (Or.inl ⟨?hw98, ?hy98⟩) (by assumption) ?hrest98
            case hi98 => simp only [List.getElem?_toArray]; rfl
            case hs98 => kernel_rfl
            case hf98 => kernel_rfl
            case hr98 => kernel_rfl
            case hQ98 => exact fun _ _ _ h => h
            case hw98 => rfl
            case hy98 => intro w hSw; (try dsimp only at hSw); go_simp; try with_reducible rfl
            try simp only [Act.put, List.setIfInBounds_toArray, List.set_cons_zero, List.set_cons_succ]
            refine' wpAnyH_take (i := 12) (oi := _) (v := _) ?hi99 ?hs99 ?hf99 ?hr99 ?hQ99 (Or.inl ⟨?hw99, ?hy99⟩) (by assumption) ?hrest99
            case hi99 => simp only [List.getElem?_toArray]; rfl
            case hs99 => kernel_rfl
            case hf99 => kernel_rfl
            case hr99 => kernel_rfl
            case hQ99 => exact fun _ _ _ h => h
            case hw99 => rfl
            case hy99 => intro w hSw; (try dsimp only at hSw); go_simp; try with_reducible rfl
            try simp only [Act.put, List.setIfInBounds_toArray, List.set_cons_zero, List.set_cons_succ]
            refine' wpAnyH_take (i := 13) (oi := _) (v := _) ?hi100 ?hs100 ?hf100 ?hr100 ?hQ100 (Or.inl ⟨?hw100, ?hy100⟩) (by assumption) ?hrest100
            case hi100 => simp only [List.getElem?_toArray]; rfl
            case hs100 => kernel_rfl
            case hf100 => kernel_rfl
            case hr100 => kernel_rfl
            case hQ100 => exact fun _ _ _ h => h
            case hw100 => rfl
            case hy100 => intro w hSw; (try dsimp only at hSw); go_simp; try with_reducible rfl
            try simp only [Act.put, List.setIfInBounds_toArray, List.set_cons_zero, List.set_cons_succ]
            refine' wpAnyH_take (i := 14) (oi := _) (v := _) ?hi101 ?hs101 ?hf101 ?hr101 ?hQ101 (Or.inl ⟨?hw101, ?hy101⟩) (by assumption) ?hrest101
            case hi101 => simp only [List.getElem?_toArray]; rfl
            case hs101 => kernel_rfl
            case hf101 => kernel_rfl
            case hr101 => kernel_rfl
            case hQ101 => exact fun _ _ _ h => h
            case hw101 => rfl
            case hy101 => intro w hSw; (try dsimp only at hSw); go_simp; try with_reducible rfl
            try simp only [Act.put, List.setIfInBounds_toArray, List.set_cons_zero, List.set_cons_succ]
            refine' wpAnyH_take (i := 15) (oi := _) (v := _) ?hi102 ?hs102 ?hf102 ?hr102 ?hQ102 (Or.inl ⟨?hw102, ?hy102⟩) (by assumption) ?hrest102
            case hi102 => simp only [List.getElem?_toArray]; rfl
            case hs102 => kernel_rfl
            case hf102 => kernel_rfl
            case hr102 => kernel_rfl
            case hQ102 => exact fun _ _ _ h => h
            case hw102 => rfl
            case hy102 => intro w hSw; (try dsimp only at hSw); go_simp; try with_reducible rfl
            try simp only [Act.put, List.setIfInBounds_toArray, List.set_cons_zero, List.set_cons_succ]
            refine' wpAnyH_take (i := 16) (oi := _) (v := _) ?hi103 ?hs103 ?hf103 ?hr103 ?hQ103 (Or.inl ⟨?hw103, ?hy103⟩) (by assumption) ?hrest103
            case hi103 => simp only [List.getElem?_toArray]; rfl
            case hs103 => kernel_rfl
            case hf103 => kernel_rfl
            case hr103 => kernel_rfl
            case hQ103 => exact fun _ _ _ h => h
            case hw103 => rfl
            case hy103 => intro w hSw; (try dsimp only at hSw); go_simp; try with_reducible rfl
            try simp only [Act.put, List.setIfInBounds_toArray, List.set_cons_zero, List.set_cons_succ]
            refine' wpAnyH_take (i := 17) (oi := _) (v := _) ?hi104 ?hs104 ?hf104 ?hr104 ?hQ104 (Or.inl ⟨?hw104, ?hy104⟩) (by assumption) ?hrest104
            case hi104 => simp only [List.getElem?_toArray]; rfl
            case hs104 => kernel_rfl
            case hf104 => kernel_rfl
            case hr104 => kernel_rfl
            case hQ104 => exact fun _ _ _ h => h
            case hw104 => rfl
            case hy104 => intro w hSw; (try dsimp only at hSw); go_simp; try with_reducible rfl
            try simp only [Act.put, List.setIfInBounds_toArray, List.set_cons_zero, List.set_cons_succ]
            refine' wpAnyH_take (i := 18) (oi := _) (v := _) ?hi105 ?hs105 ?hf105 ?hr105 ?hQ105 (Or.inl ⟨?hw105, ?hy105⟩) (by assumption) ?hrest105
            case hi105 => simp only [List.getElem?_toArray]; rfl
            case hs105 => kernel_rfl
            case hf105 => kernel_rfl
            case hr105 => kernel_rfl
            case hQ105 => exact fun _ _ _ h => h
            case hw105 => rfl
            case hy105 => intro w hSw; (try dsimp only at hSw); go_simp; try with_reducible rfl
            try simp only [Act.put, List.setIfInBounds_toArray, List.set_cons_zero, List.set_cons_succ]
            refine' wpAnyH_take (i := 19) (oi := _) (v := _) ?hi106 ?hs106 ?hf106 ?hr106 ?hQ106 (Or.inl ⟨?hw106, ?hy106⟩) (by assumption) ?hrest106
            case hi106 => simp only [List.getElem?_toArray]; rfl
            case hs106 => kernel_rfl
            case hf106 => kernel_rfl
            case hr106 => kernel_rfl
            case hQ106 => exact fun _ _ _ h => h
            case hw106 => rfl
            case hy106 => intro w hSw; (try dsimp only at hSw); go_simp; try with_reducible rfl
            try simp only [Act.put, List.setIfInBounds_toArray, List.set_cons_zero, List.set_cons_succ]
            refine' wpAnyH_take (i := 20) (oi := _) (v := _) ?hi107 ?hs107 ?hf107 ?hr107 ?hQ107 (Or.inl ⟨?hw107, ?hy107⟩) (by assumption) ?hrest107
            case hi107 => simp only [List.getElem?_toArray]; rfl
            case hs107 => kernel_rfl
            case hf107 => kernel_rfl
            case hr107 => kernel_rfl
            case hQ107 => exact fun _ _ _ h => h
            case hw107 => rfl
            case hy107 => intro w hSw; (try dsimp only at hSw); go_simp; try with_reducible rfl
            try simp only [Act.put, List.setIfInBounds_toArray, List.set_cons_zero, List.set_cons_succ]
            have HSX := Lib.hid (fun (wz : World) (h : Ext w6 wz) => h.cell c0)
            have hal : a ≤ (frmsB recs).length := by omega
            refine' wpAnyH_take (i := 21) (oi := _) (v := _) ?hi229 ?hs229 ?hf229 ?hr229 ?hQ229 (Or.inl ⟨?hw229, ?hy229⟩) (by assumption) ?hrest229
            case hi229 => simp only [List.getElem?_toArray]; rfl
            case hs229 => kernel_rfl
            case hf229 => kernel_rfl
            case hr229 => kernel_rfl
            case hQ229 => exact fun _ _ _ h => h
            case hw229 => rfl
            case hy229 => intro w hSw; (try dsimp only at hSw); go_simp; try with_reducible rfl
            try simp only [Act.put, List.setIfInBounds_toArray, List.set_cons_zero, List.set_cons_succ]
            refine' wpAnyH_take (i := 22) (oi := _) (v := _) ?hi230 ?hs230 ?hf230 ?hr230 ?hQ230 (Or.inl ⟨?hw230, ?hy230⟩) (by assumption) ?hrest230
            case hi230 => simp only [List.getElem?_toArray]; rfl
            case hs230 => kernel_rfl
            case hf230 => kernel_rfl
            case hr230 => kernel_rfl
            case hQ230 => exact fun _ _ _ h => h
            case hw230 => rfl
            case hy230 => intro w hSw; (try dsimp only at hSw); go_simp; try with_reducible rfl
            try simp only [Act.put, List.setIfInBounds_toArray, List.set_cons_zero, List.set_cons_succ]
            refine' wpAnyH_take (i := 23) (oi := _) (v := _) ?hi231 ?hs231 ?hf231 ?hr231 ?hQ231 (Or.inl ⟨?hw231, ?hy231⟩) (by assumption) ?hrest231
            case hi231 => simp only [List.getElem?_toArray]; rfl
            case hs231 => kernel_rfl
            case hf231 => kernel_rfl
            case hr231 => kernel_rfl
            case hQ231 => exact fun _ _ _ h => h
            case hw231 => rfl
            case hy231 => intro w hSw; (try dsimp only at hSw); go_simp; try with_reducible rfl
            try simp only [Act.put, List.setIfInBounds_toArray, List.set_cons_zero, List.set_cons_succ]
            refine' wpAnyH_take (i := 24) (oi := _) (v := _) ?hi232 ?hs232 ?hf232 ?hr232 ?hQ232 (Or.inl ⟨?hw232, ?hy232⟩) (by assumption) ?hrest232
            case hi232 => simp only [List.getElem?_toArray]; rfl
            case hs232 => kernel_rfl
            case hf232 => kernel_rfl
            case hr232 => kernel_rfl
            case hQ232 => exact fun _ _ _ h => h
            case hw232 => rfl
            case hy232 => intro w hSw; (try dsimp only at hSw); go_simp; try with_reducible rfl
            try simp only [Act.put, List.setIfInBounds_toArray, List.set_cons_zero, List.set_cons_succ]
            refine' wpAnyH_take (i := 26) (oi := _) (v := _) ?hi233 ?hs233 ?hf233 ?hr233 ?hQ233 (Or.inl ⟨?hw233, ?hy233⟩) (by assumption) ?hrest233
            case hi233 => simp only [List.getElem?_toArray]; rfl
            case hs233 => kernel_rfl
            case hf233 => kernel_rfl
            case hr233 => kernel_rfl
            case hQ233 => exact fun _ _ _ h => h
            case hw233 => rfl
            case hy233 => intro w hSw; (try dsimp only at hSw); go_simp; try with_reducible rfl
            try simp only [Act.put, List.setIfInBounds_toArray, List.set_cons_zero, List.set_cons_succ]
            refine' wpAnyH_take (i := 27) (oi := _) (v := _) ?hi234 ?hs234 ?hf234 ?hr234 ?hQ234 (Or.inl ⟨?hw234, ?hy234⟩) (by assumption) ?hrest234
            case hi234 => simp only [List.getElem?_toArray]; rfl
            case hs234 => kernel_rfl
            case hf234 => kernel_rfl
            case hr234 => kernel_rfl
            case hQ234 => exact fun _ _ _ h => h
            case hw234 => rfl
            case hy234 => intro w hSw; (try dsimp only at hSw); go_simp; try with_reducible rfl
            try simp only [Act.put, List.setIfInBounds_toArray, List.set_cons_zero, List.set_cons_succ]
            refine' wpAnyH_take (i := 28) (oi := _) (v := _) ?hi235 ?hs235 ?hf235 ?hr235 ?hQ235 (Or.inl ⟨?hw235, ?hy235⟩) (by assumption) ?hrest235
            case hi235 => simp only [List.getElem?_toArray]; rfl
            case hs235 => kernel_rfl
            case hf235 => kernel_rfl
            case hr235 => kernel_rfl
            case hQ235 => exact fun _ _ _ h => h
            case hw235 => rfl
            case hy235 => intro w hSw; (try dsimp only at hSw); go_simp; try with_reducible rfl
            try simp only [Act.put, List.setIfInBounds_toArray, List.set_cons_zero, List.set_cons_succ]
            refine wpAnyH_ready (rs := [25]) (by kernel_rfl) (by simp) ?_
            refine' AllReadyH.cons (o := _) ?ho236 (fun K hK => ?hstep236) AllReadyH.nil
            case ho236 => simp only [List.getElem?_toArray]; rfl
            go_simp
            rw [HPRE.out]
            clear hal
            have HC7 := Lib.hid (HC6.out.ext hxt)
            have HOLD7 := Lib.hid (HOLD6.out.step (Kp.of_ext (L := bl mg tb2 rv2 L5) hxt) (Sub.refl _ _))
            have HU7 := Lib.hid (HU6.out.step (Kp.of_ext (L := bl mg tb2 rv2 L5) hxt) (Sub.refl _ _))
            have HX7 := Lib.hid (HX6.out.trans hxt)
            have htx := text_any g L5 _ v7 HC7.out.file
            dsimp only at htx
            refine htx.mono ?_
            rintro e _ ⟨rfl, rfl⟩
            refine hK.out _ _ ((HSX.out _ hxt)) (fun hHeld => ?_)
            clear hK K
            try simp only [Act.put, List.setIfInBounds_toArray, List.set_cons_zero, List.set_cons_succ]
            clear htx
            generalize bs (frmsB (recs.take q)) = fq
            refine' wpAnyH_take (i := 29) (oi := _) (v := _) ?hi238 ?hs238 ?hf238 ?hr238 ?hQ238 (Or.inl ⟨?hw238, ?hy238⟩) (by assumption) ?hrest238
            case hi238 => simp only [List.getElem?_toArray]; rfl
            case hs238 => kernel_rfl
            case hf238 => kernel_rfl
            case hr238 => kernel_rfl
            case hQ238 => exact fun _ _ _ h => h
            case hw238 => rfl
            case hy238 => intro w hSw; (try dsimp only at hSw); go_simp; try with_reducible rfl
            try simp only [Act.put, List.setIfInBounds_toArray, List.set_cons_zero, List.set_cons_succ]
            refine' wpAnyH_take (i := 30) (oi := _) (v := _) ?hi239 ?hs239 ?hf239 ?hr239 ?hQ239 (Or.inl ⟨?hw239, ?hy239⟩) (by assumption) ?hrest239
            case hi239 => simp only [List.getElem?_toArray]; rfl
            case hs239 => kernel_rfl
            case hf239 => kernel_rfl
            case hr239 => kernel_rfl
            case hQ239 => exact fun _ _ _ h => h
            case hw239 => rfl
            case hy239 => intro w hSw; (try dsimp only at hSw); go_simp; try with_reducible rfl
            try simp only [Act.put, List.setIfInBounds_toArray, List.set_cons_zero, List.set_cons_succ]
            refine' wpAnyH_take (i := 31) (oi := _) (v := _) ?hi240 ?hs240 ?hf240 ?hr240 ?hQ240 (Or.inl ⟨?hw240, ?hy240⟩) (by assumption) ?hrest240
            case hi240 => simp only [List.getElem?_toArray]; rfl
            case hs240 => kernel_rfl
            case hf240 => kernel_rfl
            case hr240 => kernel_rfl
            case hQ240 => exact fun _ _ _ h => h
            case hw240 => rfl
            case hy240 => intro w hSw; (try dsimp only at hSw); go_simp; try with_reducible rfl
            try simp only [Act.put, List.setIfInBounds_toArray, List.set_cons_zero, List.set_cons_succ]
            refine' wpAnyH_take (i := 32) (oi := _) (v := _) ?hi241 ?hs241 ?hf241 ?hr241 ?hQ241 (Or.inl ⟨?hw241, ?hy241⟩) (by assumption) ?hrest241
            case hi241 => simp only [List.getElem?_toArray]; rfl
            case hs241 => kernel_rfl
            case hf241 => kernel_rfl
            case hr241 => kernel_rfl
            case hQ241 => exact fun _ _ _ h => h
            case hw241 => rfl
            case hy241 => intro w hSw; (try dsimp only at hSw); go_simp; try with_reducible rfl
            try simp only [Act.put, List.setIfInBounds_toArray, List.set_cons_zero, List.set_cons_succ]
            refine' wpAnyH_take (i := 34) (oi := _) (v := _) ?hi242 ?hs242 ?hf242 ?hr242 ?hQ242 (Or.inl ⟨?hw242, ?hy242⟩) (by assumption) ?hrest242
            case hi242 => simp only [List.getElem?_toArray]; rfl
            case hs242 => kernel_rfl
            case hf242 => kernel_rfl
            case hr242 => kernel_rfl
            case hQ242 => exact fun _ _ _ h => h
            case hw242 => rfl
            case hy242 => intro w hSw; (try dsimp only at hSw); go_simp; try with_reducible rfl
            try simp only [Act.put, List.setIfInBounds_toArray, List.set_cons_zero, List.set_cons_succ]
            refine wpAnyH_ready (rs := [33]) (by kernel_rfl) (by simp) ?_
            refine' AllReadyH.cons (o := _) ?ho243 (fun K hK => ?hstep243) AllReadyH.nil
            case ho243 => simp only [List.getElem?_toArray]; rfl
            go_simp
            have hsu := sure_any g L5 _ v7 HC7.out.file
            dsimp only at hsu
            rw [← HA.out] at hsu
            refine hsu.mono ?_
            rintro e _ ⟨rfl, rfl⟩
            clear hsu
            refine hK.out _ _ ((HSX.out _ hxt)) (fun hHeld => ?_)
            clear hK K
            try simp only [Act.put, List.setIfInBounds_toArray, List.set_cons_zero, List.set_cons_succ]
            refine' wpAnyH_take (i := 35) (oi := _) (v := _) ?hi245 ?hs245 ?hf245 ?hr245 ?hQ245 (Or.inl ⟨?hw245, ?hy245⟩) (by assumption) ?hrest245
            case hi245 => simp only [List.getElem?_toArray]; rfl
            case hs245 => kernel_rfl
            case hf245 => kernel_rfl
            case hr245 => kernel_rfl
            case hQ245 => exact fun _ _ _ h => h
            case hw245 => rfl
            case hy245 => intro w hSw; (try dsimp only at hSw); go_simp; try with_reducible rfl
            try simp only [Act.put, List.setIfInBounds_toArray, List.set_cons_zero, List.set_cons_succ]
            refine' wpAnyH_take (i := 36) (oi := _) (v := _) ?hi246 ?hs246 ?hf246 ?hr246 ?hQ246 (Or.inl ⟨?hw246, ?hy246⟩) (by assumption) ?hrest246
            case hi246 => simp only [List.getElem?_toArray]; rfl
            case hs246 => kernel_rfl
            case hf246 => kernel_rfl
            case hr246 => kernel_rfl
            case hQ246 => exact fun _ _ _ h => h
            case hw246 => rfl
            case hy246 => intro w hSw; (try dsimp only at hSw); go_simp; try with_reducible rfl
            try simp only [Act.put, List.setIfInBounds_toArray, List.set_cons_zero, List.set_cons_succ]
            refine' wpAnyH_take (i := 37) (oi := _) (v := _) ?hi247 ?hs247 ?hf247 ?hr247 ?hQ247 (Or.inl ⟨?hw247, ?hy247⟩) (by assumption) ?hrest247
            case hi247 => simp only [List.getElem?_toArray]; rfl
            case hs247 => kernel_rfl
            case hf247 => kernel_rfl
            case hr247 => kernel_rfl
            case hQ247 => exact fun _ _ _ h => h
            case hw247 => rfl
            case hy247 => intro w hSw; (try dsimp only at hSw); go_simp; try with_reducible rfl
            try simp only [Act.put, List.setIfInBounds_toArray, List.set_cons_zero, List.set_cons_succ]
            refine' wpAnyH_take (i := 38) (oi := _) (v := _) ?hi248 ?hs248 ?hf248 ?hr248 ?hQ248 (Or.inl ⟨?hw248, ?hy248⟩) (by assumption) ?hrest248
            case hi248 => simp only [List.getElem?_toArray]; rfl
            case hs248 => kernel_rfl
            case hf248 => kernel_rfl
            case hr248 => kernel_rfl
            case hQ248 => exact fun _ _ _ h => h
            case hw248 => rfl
            case hy248 => intro w hSw; (try dsimp only at hSw); go_simp; try with_reducible rfl
            try simp only [Act.put, List.setIfInBounds_toArray, List.set_cons_zero, List.set_cons_succ]
            refine' wpAnyH_take (i := 40) (oi := _) (v := _) ?hi249 ?hs249 ?hf249 ?hr249 ?hQ249 (Or.inl ⟨?hw249, ?hy249⟩) (by assumption) ?hrest249
            case hi249 => simp only [List.getElem?_toArray]; rfl
            case hs249 => kernel_rfl
            case hf249 => kernel_rfl
            case hr249 => kernel_rfl
            case hQ249 => exact fun _ _ _ h => h
            case hw249 => rfl
            case hy249 => intro w hSw; (try dsimp only at hSw); go_simp; try with_reducible rfl
            try simp only [Act.put, List.setIfInBounds_toArray, List.set_cons_zero, List.set_cons_succ]
            refine' wpAnyH_take (i := 41) (oi := _) (v := _) ?hi250 ?hs250 ?hf250 ?hr250 ?hQ250 (Or.inl ⟨?hw250, ?hy250⟩) (by assumption) ?hrest250
            case hi250 => simp only [List.getElem?_toArray]; rfl
            case hs250 => kernel_rfl
            case hf250 => kernel_rfl
            case hr250 => kernel_rfl
            case hQ250 => exact fun _ _ _ h => h
            case hw250 => rfl
            case hy250 => intro w hSw; (try dsimp only at hSw); go_simp; try with_reducible rfl
            try simp only [Act.put, List.setIfInBounds_toArray, List.set_cons_zero, List.set_cons_succ]
            refine wpAnyH_ready (rs := [39]) (by kernel_rfl) (by simp) ?_
            refine' AllReadyH.cons (o := _) ?ho251 (fun K hK => ?hstep251) AllReadyH.nil
            case ho251 => simp only [List.getElem?_toArray]; rfl
            go_simp
            obtain ⟨o0, o1, o4, orv, ob, oo, _, _⟩ := HOLD7.out
            refine (lsure_core lg q o0 o1 orv o4 v7 ob).mono ?_
            rintro e _ ⟨rfl, rfl⟩
            clear ob oo
            refine hK.out _ _ ((HSX.out _ hxt)) (fun hHeld => ?_)
            clear hK K
            try simp only [Act.put, List.setIfInBounds_toArray, List.set_cons_zero, List.set_cons_succ]
            refine' wpAnyH_take (i := 42) (oi := _) (v := _) ?hi253 ?hs253 ?hf253 ?hr253 ?hQ253 (Or.inl ⟨?hw253, ?hy253⟩) (by assumption) ?hrest253
            case hi253 => simp only [List.getElem?_toArray]; rfl
            case hs253 => kernel_rfl
            case hf253 => kernel_rfl
            case hr253 => kernel_rfl
            case hQ253 => exact fun _ _ _ h => h
            case hw253 => rfl
            case hy253 => intro w hSw; (try dsimp only at hSw); go_simp; try with_reducible rfl
            try simp only [Act.put, List.setIfInBounds_toArray, List.set_cons_zero, List.set_cons_succ]
            refine' wpAnyH_take (i := 43) (oi := _) (v := _) ?hi254 ?hs254 ?hf254 ?hr254 ?hQ254 (Or.inl ⟨?hw254, ?hy254⟩) (by assumption) ?hrest254
            case hi254 => simp only [List.getElem?_toArray]; rfl
            case hs254 => kernel_rfl
            case hf254 => kernel_rfl
            case hr254 => kernel_rfl
            case hQ254 => exact fun _ _ _ h => h
            case hw254 => rfl
            case hy254 => intro w hSw; (try dsimp only at hSw); go_simp; try with_reducible rfl
            try simp only [Act.put, List.setIfInBounds_toArray, List.set_cons_zero, List.set_cons_succ]
            refine' wpAnyH_take (i := 44) (oi := _) (v := _) ?hi255 ?hs255 ?hf255 ?hr255 ?hQ255 (Or.inl ⟨?hw255, ?hy255⟩) (by assumption) ?hrest255
            case hi255 => simp only [List.getElem?_toArray]; rfl
            case hs255 => kernel_rfl
            case hf255 => kernel_rfl
            case hr255 => kernel_rfl
            case hQ255 => exact fun _ _ _ h => h
            case hw255 => rfl
            case hy255 => intro w hSw; (try dsimp only at hSw); go_simp; try with_reducible rfl
            try simp only [Act.put, List.setIfInBounds_toArray, List.set_cons_zero, List.set_cons_succ]
            refine' wpAnyH_take (i := 45) (oi := _) (v := _) ?hi256 ?hs256 ?hf256 ?hr256 ?hQ256 (Or.inl ⟨?hw256, ?hy256⟩) (by assumption) ?hrest256
            case hi256 => simp only [List.getElem?_toArray]; rfl
            case hs256 => kernel_rfl
            case hf256 => kernel_rfl
            case hr256 => kernel_rfl
            case hQ256 => exact fun _ _ _ h => h
            case hw256 => rfl
            case hy256 => intro w hSw; (try dsimp only at hSw); go_simp; try with_reducible rfl
            try simp only [Act.put, List.setIfInBounds_toArray, List.set_cons_zero, List.set_cons_succ]
            refine' wpAnyH_take (i := 47) (oi := _) (v := _) ?hi257 ?hs257 ?hf257 ?hr257 ?hQ257 (Or.inl ⟨?hw257, ?hy257⟩) (by assumption) ?hrest257
            case hi257 => simp only [List.getElem?_toArray]; rfl
            case hs257 => kernel_rfl
            case hf257 => kernel_rfl
            case hr257 => kernel_rfl
            case hQ257 => exact fun _ _ _ h => h
            case hw257 => rfl
            case hy257 => intro w hSw; (try dsimp only at hSw); go_simp; try with_reducible rfl
            try simp only [Act.put, List.setIfInBounds_toArray, List.set_cons_zero, List.set_cons_succ]
            refine wpAnyH_ready (rs := [46]) (by kernel_rfl) (by simp) ?_
            refine' AllReadyH.cons (o := _) ?ho258 (fun K hK => ?hstep258) AllReadyH.nil
            case ho258 => simp only [List.getElem?_toArray]; rfl
            go_simp
            refine (records_any mg tb2 rv2 L5 _ v7 HC7.out (by dsimp only; omega)).mono ?_
            dsimp only
            rintro e w8 ⟨u8, rfl, hu8, hx8⟩
            obtain ⟨A8, c8, rfl⟩ := own_len hu8
            have HT8 := Lib.hid (own_txt (own_base hu8))
            have HX8 := Lib.hid (hxt.trans hx8)
            have HTU8 := Lib.hid ((own_txt HU7.out.1).ext hx8)
            clear hu8 hx8
            rw [hjz] at HT8 ⊢
            refine hK.out _ _ ((HSX.out _ HX8.out)) (fun hHeld => ?_)
            clear hK K
            try simp only [Act.put, List.setIfInBounds_toArray, List.set_cons_zero, List.set_cons_succ]
            refine wpAnyH_ready (rs := [48]) (by kernel_rfl) (by simp) ?_
            refine' AllReadyH.cons (o := _) ?ho260 (fun K hK => ?hstep260) AllReadyH.nil
            case ho260 => simp only [List.getElem?_toArray]; rfl
            go_simp
            refine (same_yes _ _ (recs.take q) (recs.take q) w8 HT8.out HTU8.out rfl).mono ?_
            rintro e w9 ⟨rfl, hx9⟩
            have HX9 := Lib.hid (HX8.out.trans hx9)
            clear hx9
            refine hK.out _ _ ((HSX.out _ HX9.out)) (fun hHeld => ?_)
            clear hK K
            try simp only [Act.put, List.setIfInBounds_toArray, List.set_cons_zero, List.set_cons_succ]
            refine' wpAnyH_take (i := 49) (oi := _) (v := _) ?hi262 ?hs262 ?hf262 ?hr262 ?hQ262 (Or.inl ⟨?hw262, ?hy262⟩) (by assumption) ?hrest262
            case hi262 => simp only [List.getElem?_toArray]; rfl
            case hs262 => kernel_rfl
            case hf262 => kernel_rfl
            case hr262 => kernel_rfl
            case hQ262 => exact fun _ _ _ h => h
            case hw262 => rfl
            case hy262 => intro w hSw; (try dsimp only at hSw); go_simp; try with_reducible rfl
            try simp only [Act.put, List.setIfInBounds_toArray, List.set_cons_zero, List.set_cons_succ]
            refine' wpAnyH_take (i := 50) (oi := _) (v := _) ?hi263 ?hs263 ?hf263 ?hr263 ?hQ263 (Or.inl ⟨?hw263, ?hy263⟩) (by assumption) ?hrest263
            case hi263 => simp only [List.getElem?_toArray]; rfl
            case hs263 => kernel_rfl
            case hf263 => kernel_rfl
            case hr263 => kernel_rfl
            case hQ263 => exact fun _ _ _ h => h
            case hw263 => rfl
            case hy263 => intro w hSw; (try dsimp only at hSw); go_simp; try with_reducible rfl
            try simp only [Act.put, List.setIfInBounds_toArray, List.set_cons_zero, List.set_cons_succ]
            refine wpAnyH_ready (rs := [51]) (by kernel_rfl) (by simp) ?_
            refine' AllReadyH.cons (o := _) ?ho264 (fun K hK => ?hstep264) AllReadyH.nil
            case ho264 => simp only [List.getElem?_toArray]; rfl
            go_simp
            refine (known_any _).mono ?_
            rintro e w10 ⟨rfl, hx10⟩
            have HX10 := Lib.hid (HX9.out.trans hx10)
            clear hx10
            refine hK.out _ _ ((HSX.out _ HX10.out)) (fun hHeld => ?_)
            clear hK K
            try simp only [Act.put, List.setIfInBounds_toArray, List.set_cons_zero, List.set_cons_succ]
            refine' wpAnyH_take (i := 52) (oi := _) (v := _) ?hi266 ?hs266 ?hf266 ?hr266 ?hQ266 (Or.inl ⟨?hw266, ?hy266⟩) (by assumption) ?hrest266
            case hi266 => simp only [List.getElem?_toArray]; rfl
            case hs266 => kernel_rfl
            case hf266 => kernel_rfl
            case hr266 => kernel_rfl
            case hQ266 => exact fun _ _ _ h => h
            case hw266 => rfl
            case hy266 => intro w hSw; (try dsimp only at hSw); go_simp; try with_reducible rfl
            try simp only [Act.put, List.setIfInBounds_toArray, List.set_cons_zero, List.set_cons_succ]
            refine' wpAnyH_take (i := 53) (oi := _) (v := _) ?hi267 ?hs267 ?hf267 ?hr267 ?hQ267 (Or.inl ⟨?hw267, ?hy267⟩) (by assumption) ?hrest267
            case hi267 => simp only [List.getElem?_toArray]; rfl
            case hs267 => kernel_rfl
            case hf267 => kernel_rfl
            case hr267 => kernel_rfl
            case hQ267 => exact fun _ _ _ h => h
            case hw267 => rfl
            case hy267 => intro w hSw; (try dsimp only at hSw); go_simp; try with_reducible rfl
            try simp only [Act.put, List.setIfInBounds_toArray, List.set_cons_zero, List.set_cons_succ]
            refine wpAnyH_done (by kernel_rfl) ?_ _
            go_wp2_with fail
            go_ret
            exact ⟨rfl, HX6.out.trans HX10.out⟩
end Go.Proofs.Ytdndeggognfcaaa
