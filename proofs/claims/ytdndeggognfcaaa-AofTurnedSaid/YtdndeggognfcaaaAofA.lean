/- AofTurned: the plain law, and the walk. -/
import Derived.Test.YtdndeggognfcaaaAofS
namespace Go.Proofs.Ytdndeggognfcaaa
open Go.RowKit Crc Fil
set_option linter.unusedVariables false
set_option linter.unusedSectionVars false
set_option linter.unusedSimpArgs false
set_option maxRecDepth 100000


namespace Crc
theorem crc_lt (l : List UInt8) : crcL l < 4294967296 := by unfold crcL; omega
theorem four_inj {a b : Nat} (ha : a < 4294967296) (hb : b < 4294967296) (h : four a = four b) : a = b := by
  have h1 := four_num ha []
  have h2 := four_num hb []
  rw [h] at h1
  exact h1.symm.trans h2
/-- A frame of which a byte is another one, behind its length's. -/
theorem fst_turn {x : List UInt8} (h : good x) {j : Nat} (h4 : 4 ≤ j) {c d : UInt8} (hc : (frm x)[j]? = some c) (hd : d ≠ c) (t : List UInt8) : fstL ((frm x).set j d ++ t) = none := by
  have hF : frm x = four x.length ++ (x ++ four (crcL x)) := by unfold frm; rw [if_pos h]
  have hl := frm_len h
  obtain ⟨i, rfl⟩ : ∃ i, j = i + 4 := ⟨j - 4, by omega⟩
  rw [hF, List.getElem?_append_right (by rw [four_len]; omega), four_len, Nat.add_sub_cancel] at hc
  have hS : (frm x).set (i + 4) d = four x.length ++ (x ++ four (crcL x)).set i d := by
    rw [hF, List.set_append_right _ _ (by rw [four_len]; omega), four_len, Nat.add_sub_cancel]
  match hf : fstL ((frm x).set (i + 4) d ++ t) with
  | none => rfl
  | some y =>
    exfalso
    obtain ⟨h1, h2, h3⟩ := fst_some hf
    have hyF : frm y = four y.length ++ (y ++ four (crcL y)) := by unfold frm; rw [if_pos h1]
    have e1 : num4 ((frm x).set (i + 4) d ++ t) = y.length := by rw [h3, hyF, List.append_assoc]; exact four_num (by unfold good at h1; omega) _
    have e2 : num4 ((frm x).set (i + 4) d ++ t) = x.length := by rw [hS, List.append_assoc]; exact four_num (by unfold good at h; omega) _
    have hxy : y.length = x.length := e1.symm.trans e2
    have hly := frm_len h1
    have e3 : (frm x).set (i + 4) d = frm y := by
      have : ((frm x).set (i + 4) d ++ t).take (x.length + 8) = (frm y ++ ((frm x).set (i + 4) d ++ t).drop (y.length + 8)).take (x.length + 8) := by rw [← h3]
      rw [List.take_left' (by rw [List.length_set, hl]), List.take_left' (by rw [hly, hxy])] at this
      exact this
    rw [hS, hyF, hxy] at e3
    have e4 := List.append_cancel_left e3
    by_cases hi : i < x.length
    · rw [List.set_append_left _ _ hi] at e4
      obtain ⟨e5, e6⟩ := List.append_inj e4 (by rw [List.length_set, hxy])
      rw [List.getElem?_append_left hi] at hc
      have hx1 : x = x.take i ++ c :: x.drop (i + 1) := by
        obtain ⟨hlt, hge⟩ := List.getElem?_eq_some_iff.1 hc
        rw [← hge, List.getElem_cons_drop, List.take_append_drop]
      have hy1 : y = x.take i ++ d :: x.drop (i + 1) := by rw [← e5, List.set_eq_take_append_cons_drop, if_pos hi]
      have e7 := four_inj (crc_lt x) (crc_lt y) e6
      refine crc_turn (x.take i) (x.drop (i + 1)) (Ne.symm hd) ?_
      rw [← hx1, ← hy1]
      exact e7
    · rw [List.set_append_right _ _ (by omega)] at e4
      obtain ⟨e5, e6⟩ := List.append_inj e4 (by rw [hxy])
      rw [List.getElem?_append_right (by omega)] at hc
      rw [← e5] at e6
      have := congrArg (fun l => l[i - x.length]?) e6
      simp only [List.getElem?_set_self', hc, Option.map_some, Option.some.injEq] at this
      simp at this
      exact hd this
theorem read_turn {l : List (List UInt8)} (h : ∀ x ∈ l, good x) : ∀ (k : Nat) (c d : UInt8), (frms l)[k]? = some c → d ≠ c → ∃ n t, n < l.length ∧ (frms (l.take n)).length ≤ k ∧ (∀ x, l[n]? = some x → k < (frms (l.take n)).length + x.length + 8) ∧
    readL ((frms l).set k d) = l.take n ++ t ∧ ((frms (l.take n)).length + 4 ≤ k → t = []) := by
  induction l with
  | nil => intro k c d hc; simp [frms] at hc
  | cons x l ih =>
    intro k c d hc hd
    have hx := h x (by simp)
    have hl := frm_len hx
    have e : frms (x :: l) = frm x ++ frms l := rfl
    rw [e] at hc
    by_cases hk : k < x.length + 8
    · rw [List.getElem?_append_left (by omega)] at hc
      refine ⟨0, readL ((frms (x :: l)).set k d), by simp, by simp [frms], ?_, rfl, fun h4 => ?_⟩
      · intro y hy
        simp at hy
        subst hy
        simp [frms]
        omega
      · have h4' : 4 ≤ k := by simpa [frms] using h4
        rw [e, List.set_append_left _ _ (by omega)]
        exact read_none (fst_turn hx h4' hc hd _)
    · rw [List.getElem?_append_right (by omega), hl] at hc
      obtain ⟨n, t, h1, h2, h3, h4, h5⟩ := ih (fun y hy => h y (by simp [hy])) (k - (x.length + 8)) c d hc hd
      have e2 : ((frms ((x :: l).take (n + 1))).length) = x.length + 8 + (frms (l.take n)).length := by
        show (frm x ++ frms (l.take n)).length = _
        rw [List.length_append, hl]
      refine ⟨n + 1, t, by simp; omega, by rw [e2]; omega, ?_, ?_, ?_⟩
      · intro y hy
        have := h3 y (by simpa using hy)
        rw [e2]
        omega
      · rw [e, List.set_append_right _ _ (by omega), hl, read_frm hx, h4]
        rfl
      · intro hh
        rw [e2] at hh
        exact h5 (by omega)
end Crc
/-- A text of frames of which a byte is another one, opened. -/
theorem open_turn {recs : List ByteArray} (hg : ∀ x ∈ recs, good x.toList) (k : Nat) (c d : UInt8) (hc : (frmsB recs)[k]? = some c) (hd : d ≠ c) (s : ByteArray) (hs : s.toList = (frmsB recs).set k d) :
    ∃ n t, n < recs.length ∧ (frmsB (recs.take n)).length ≤ k ∧ (∀ x, recs[n]? = some x → k < (frmsB (recs.take n)).length + x.size + 8) ∧ (readL s.toList).map bs = recs.take n ++ t ∧ ((frmsB (recs.take n)).length + 4 ≤ k → t = []) := by
  obtain ⟨n, t, h1, h2, h3, h4, h5⟩ := read_turn (l := recs.map fun s : ByteArray => s.toList) (by intro x hx; obtain ⟨s, hs, rfl⟩ := List.mem_map.1 hx; exact hg s hs) k c d hc hd
  rw [frmsB_take] at h2 h3 h5
  refine ⟨n, t.map bs, by simpa using h1, h2, fun x hx => ?_, ?_, fun hh => by rw [h5 hh]; rfl⟩
  · have := h3 x.toList (by rw [List.getElem?_map, hx]; rfl)
    rwa [size_list] at this
  · rw [hs]
    show (readL ((frms (recs.map fun s => s.toList)).set k d)).map bs = _
    rw [h4, List.map_append, List.map_take, bs_inv]
theorem set_text (fs : ByteArray) (k : Nat) (d : UInt8) (hk : k < fs.size) {l : List UInt8} (hl : fs.toList = l) : (fs.extract 0 k ++ ⟨[d].toArray⟩ ++ fs.extract (k + 1) fs.size).toList = l.set k d := by
  have hz := size_list fs
  rw [toList_append2, toList_append2, extract_cut, cutS_list, toList_mk, List.set_eq_take_append_cons_drop, ← hl, if_pos (by omega)]
  have : (fs.extract (k + 1) fs.size).toList = fs.toList.drop (k + 1) := by
    rw [Lib.toList_data, Lib.toList_data]
    simp
    rw [List.take_of_length_le (by simp)]
  rw [this]
  simp [Lib.toList_data]
theorem txt_pre {w : World} {A : Option Addr} {n c : Nat} {l : List ByteArray} (h : Txt w (.slice A n c) l) {i : Nat} (hi : i ≤ n) (l' : List ByteArray) (hl : l.take i = l') : Txt w (.slice A i c) l' := by
  subst hl
  obtain ⟨A', n', c', h1, h2, h3, h4, h5⟩ := h
  cases h1
  refine ⟨A, i, c, rfl, by rw [List.length_take]; omega, by omega, h4, ?_⟩
  have := h5.take i
  rwa [← List.map_take] at this
set_option maxHeartbeats 20000000 in
theorem aofTurned_any (v : Value) (l : List ByteArray) (ct y : Nat) (w : World) (hv : Txt w v l) (hs : Fit l) (hct : ct < 65536) (hy : y < 256) : Calls Try.prog 6 #[v, .int .u16 (ct : Int), .int .u8 (y : Int)] w fun e w' => e = .returned (.bool true) ∧ Ext w w' := by
  obtain ⟨i0, hi0, hz0, hz1, hz2⟩ := info_parts Try.strInfo
  obtain ⟨A, n, c, rfl, hn, hnc, hcm, hr⟩ := hv
  have HN := Lib.hid hn
  have HR := Lib.hid hr
  have HSZ := Lib.hid hs
  clear hn hr hs
  go_enter Try.func6, Try.ntmps6
  go_wp2_with fail
  go_loopw [7, 8, 9] (fun so io iv wr => ∃ (k : Nat) (recs : List ByteArray), k ≤ n ∧ k ≤ 10 ∧ iv = .int .i64 (k : Int) ∧ so = .string (bs (frmsB recs)) ∧ Own w wr io recs ∧ Ext w wr ∧ recs.length ≤ k ∧ ∀ x ∈ recs, good x.toList ∧ x.size ≤ 100) (fun _ _ iv _ => n - (intOf iv).toNat)
  case atStart => exact ⟨0, [], by omega, by omega, rfl, rfl, Own.nil w w, Ext.refl _, by simp, by simp⟩
  case round =>
    obtain ⟨k, recs, hk, hk10, rfl, rfl, hio, hx, hrl, hrg⟩ := hrel
    have HIO := Lib.hid hio
    have HX := Lib.hid hx
    have HRG := Lib.hid hrg
    clear hio hx hrg
    have hfz : (bs (frmsB recs)).size ≤ 10 * 408 := by
      rw [bs_size]
      have := frms_le recs (fun x hx => by have := (HRG.out x hx).2; omega)
      omega
    by_cases hkn : k < n
    · by_cases hk2 : k < 10
      · have hkI : (k : Int) < (n : Int) := by omega
        have hkJ : (0 : Int) ≤ (k : Int) := by omega
        have hkK : (k : Int) < 10 := by omega
        obtain ⟨s, hsk⟩ : ∃ s, l[k]? = some s := ⟨_, List.getElem?_eq_getElem (by rw [HN.out]; exact hkn)⟩
        obtain ⟨ad, rfl, hcell⟩ := (HR.out.ext HX.out).some_ (by rw [List.length_map, HN.out]; omega)
        have c0 := hcell k (.string s) (by rw [List.getElem?_map, hsk]; rfl)
        have hz := HSZ.out s (List.mem_of_getElem? hsk)
        obtain ⟨m, hm⟩ : ∃ m, m = min s.size 100 := ⟨_, rfl⟩
        have hmI : (if (100 : Int) < (s.size : Int) then (100 : Int) else (s.size : Int)) = (m : Int) := by split <;> omega
        have hmJ : (0 : Int) ≤ (m : Int) ∧ (m : Int) ≤ (s.size : Int) := by omega
        have hxz : (s.extract 0 m).size = m := by rw [ByteArray.size_extract]; omega
        have hm3 : m ≤ 100 := by omega
        clear hcell hsk hm
        go_upto_region 6 with fail
        refine wp_region_held_drew (S := fun wz => wz.cell? (ad.add k) = some (.string s)) (by kernel_rfl) c0 (fun hHeld => ?_)
        have hxt : Ext wr wr.drew := Ext.drew _
        generalize wr.drew = v5 at hxt hHeld ⊢
        refine' wpAnyH_take (i := 0) (oi := _) (v := _) ?hi2 ?hs2 ?hf2 ?hr2 ?hQ2 (Or.inl ⟨?hw2, ?hy2⟩) (by assumption) ?hrest2
        case hi2 => simp only [List.getElem?_toArray]; rfl
        case hs2 => kernel_rfl
        case hf2 => kernel_rfl
        case hr2 => kernel_rfl
        case hQ2 => exact fun _ _ _ h => h
        case hw2 => rfl
        case hy2 => intro w hSw; (try dsimp only at hSw); go_simp; try with_reducible rfl
        try simp only [Act.put, List.setIfInBounds_toArray, List.set_cons_zero, List.set_cons_succ]
        refine' wpAnyH_take (i := 1) (oi := _) (v := _) ?hi3 ?hs3 ?hf3 ?hr3 ?hQ3 (Or.inl ⟨?hw3, ?hy3⟩) (by assumption) ?hrest3
        case hi3 => simp only [List.getElem?_toArray]; rfl
        case hs3 => kernel_rfl
        case hf3 => kernel_rfl
        case hr3 => kernel_rfl
        case hQ3 => exact fun _ _ _ h => h
        case hw3 => rfl
        case hy3 => intro w hSw; (try dsimp only at hSw); go_simp; try with_reducible rfl
        try simp only [Act.put, List.setIfInBounds_toArray, List.set_cons_zero, List.set_cons_succ]
        refine' wpAnyH_take (i := 2) (oi := _) (v := _) ?hi4 ?hs4 ?hf4 ?hr4 ?hQ4 (Or.inl ⟨?hw4, ?hy4⟩) (by assumption) ?hrest4
        case hi4 => simp only [List.getElem?_toArray]; rfl
        case hs4 => kernel_rfl
        case hf4 => kernel_rfl
        case hr4 => kernel_rfl
        case hQ4 => exact fun _ _ _ h => h
        case hw4 => rfl
        case hy4 => intro w hSw; (try dsimp only at hSw); go_simp; try with_reducible rfl
        try simp only [Act.put, List.setIfInBounds_toArray, List.set_cons_zero, List.set_cons_succ]
        refine' wpAnyH_take (i := 3) (oi := _) (v := _) ?hi5 ?hs5 ?hf5 ?hr5 ?hQ5 (Or.inl ⟨?hw5, ?hy5⟩) (by assumption) ?hrest5
        case hi5 => simp only [List.getElem?_toArray]; rfl
        case hs5 => kernel_rfl
        case hf5 => kernel_rfl
        case hr5 => kernel_rfl
        case hQ5 => exact fun _ _ _ h => h
        case hw5 => rfl
        case hy5 => intro w hSw; (try dsimp only at hSw); go_simp; try with_reducible rfl
        try simp only [Act.put, List.setIfInBounds_toArray, List.set_cons_zero, List.set_cons_succ]
        refine' wpAnyH_take (i := 4) (oi := _) (v := _) ?hi6 ?hs6 ?hf6 ?hr6 ?hQ6 (Or.inl ⟨?hw6, ?hy6⟩) (by assumption) ?hrest6
        case hi6 => simp only [List.getElem?_toArray]; rfl
        case hs6 => kernel_rfl
        case hf6 => kernel_rfl
        case hr6 => kernel_rfl
        case hQ6 => exact fun _ _ _ h => h
        case hw6 => rfl
        case hy6 => intro w hSw; (try dsimp only at hSw); go_simp; try with_reducible rfl
        try simp only [Act.put, List.setIfInBounds_toArray, List.set_cons_zero, List.set_cons_succ]
        refine' wpAnyH_take (i := 5) (oi := _) (v := _) ?hi7 ?hs7 ?hf7 ?hr7 ?hQ7 (Or.inl ⟨?hw7, ?hy7⟩) (by assumption) ?hrest7
        case hi7 => simp only [List.getElem?_toArray]; rfl
        case hs7 => kernel_rfl
        case hf7 => kernel_rfl
        case hr7 => kernel_rfl
        case hQ7 => exact fun _ _ _ h => h
        case hw7 => rfl
        case hy7 => intro w hSw; (try dsimp only at hSw); go_simp; try with_reducible rfl
        try simp only [Act.put, List.setIfInBounds_toArray, List.set_cons_zero, List.set_cons_succ]
        refine' wpAnyH_take (i := 6) (oi := _) (v := _) ?hi8 ?hs8 ?hf8 ?hr8 ?hQ8 (Or.inl ⟨?hw8, ?hy8⟩) (by assumption) ?hrest8
        case hi8 => simp only [List.getElem?_toArray]; rfl
        case hs8 => kernel_rfl
        case hf8 => kernel_rfl
        case hr8 => kernel_rfl
        case hQ8 => exact fun _ _ _ h => h
        case hw8 => rfl
        case hy8 => intro w hSw; (try dsimp only at hSw); go_simp; try with_reducible rfl
        try simp only [Act.put, List.setIfInBounds_toArray, List.set_cons_zero, List.set_cons_succ]
        refine' wpAnyH_take (i := 7) (oi := _) (v := _) ?hi9 ?hs9 ?hf9 ?hr9 ?hQ9 (Or.inl ⟨?hw9, ?hy9⟩) (by assumption) ?hrest9
        case hi9 => simp only [List.getElem?_toArray]; rfl
        case hs9 => kernel_rfl
        case hf9 => kernel_rfl
        case hr9 => kernel_rfl
        case hQ9 => exact fun _ _ _ h => h
        case hw9 => rfl
        case hy9 => intro w hSw; (try dsimp only at hSw); go_simp; try with_reducible rfl
        try simp only [Act.put, List.setIfInBounds_toArray, List.set_cons_zero, List.set_cons_succ]
        refine' wpAnyH_take (i := 8) (oi := _) (v := _) ?hi10 ?hs10 ?hf10 ?hr10 ?hQ10 (Or.inl ⟨?hw10, ?hy10⟩) (by assumption) ?hrest10
        case hi10 => simp only [List.getElem?_toArray]; rfl
        case hs10 => kernel_rfl
        case hf10 => kernel_rfl
        case hr10 => kernel_rfl
        case hQ10 => exact fun _ _ _ h => h
        case hw10 => rfl
        case hy10 => intro w hSw; (try dsimp only at hSw); go_simp; try with_reducible rfl
        try simp only [Act.put, List.setIfInBounds_toArray, List.set_cons_zero, List.set_cons_succ]
        refine' wpAnyH_take (i := 9) (oi := _) (v := _) ?hi11 ?hs11 ?hf11 ?hr11 ?hQ11 (Or.inl ⟨?hw11, ?hy11⟩) (by assumption) ?hrest11
        case hi11 => simp only [List.getElem?_toArray]; rfl
        case hs11 => kernel_rfl
        case hf11 => kernel_rfl
        case hr11 => kernel_rfl
        case hQ11 => exact fun _ _ _ h => h
        case hw11 => rfl
        case hy11 => intro w hSw; (try dsimp only at hSw); go_simp; try with_reducible rfl
        try simp only [Act.put, List.setIfInBounds_toArray, List.set_cons_zero, List.set_cons_succ]
        refine' wpAnyH_take (i := 10) (oi := _) (v := _) ?hi12 ?hs12 ?hf12 ?hr12 ?hQ12 (Or.inl ⟨?hw12, ?hy12⟩) (by assumption) ?hrest12
        case hi12 => simp only [List.getElem?_toArray]; rfl
        case hs12 => kernel_rfl
        case hf12 => kernel_rfl
        case hr12 => kernel_rfl
        case hQ12 => exact fun _ _ _ h => h
        case hw12 => rfl
        case hy12 => intro w hSw; (try dsimp only at hSw); go_simp; try with_reducible rfl
        try simp only [Act.put, List.setIfInBounds_toArray, List.set_cons_zero, List.set_cons_succ]
        refine' wpAnyH_take (i := 11) (oi := _) (v := _) ?hi13 ?hs13 ?hf13 ?hr13 ?hQ13 (Or.inl ⟨?hw13, ?hy13⟩) (by assumption) ?hrest13
        case hi13 => simp only [List.getElem?_toArray]; rfl
        case hs13 => kernel_rfl
        case hf13 => kernel_rfl
        case hr13 => kernel_rfl
        case hQ13 => exact fun _ _ _ h => h
        case hw13 => rfl
        case hy13 => intro w hSw; (try dsimp only at hSw); go_simp; try with_reducible rfl
        try simp only [Act.put, List.setIfInBounds_toArray, List.set_cons_zero, List.set_cons_succ]
        refine wpAnyH_done (by kernel_rfl) ?_ _
        have HX5 := Lib.hid (HX.out.trans hxt)
        have HIO5 := Lib.hid (HIO.out.ext hxt)
        clear hHeld hxt c0
        generalize s.extract 0 m = x at hxz ⊢
        clear hmI hmJ hz
        by_cases hm0 : m = 0
        · have hem : x.toList.isEmpty = true := by rw [List.isEmpty_iff_length_eq_zero, size_list, hxz, hm0]
          go_wp2_with fail
          go_roundw
          case rel => exact ⟨k + 1, recs, by omega, by omega, by go_num, rfl, HIO5.out, HX5.out, by omega, HRG.out⟩
          case measure => simp [intOf]; omega
        · have hem : x.toList.isEmpty = false := by
            rw [← Bool.not_eq_true, List.isEmpty_iff_length_eq_zero, size_list, hxz]
            exact hm0
          have hg : good x.toList := by unfold good; rw [size_list, hxz]; omega
          have hfx : (bs (frm x.toList)).size = m + 8 := by rw [bs_size, frm_len hg, size_list, hxz]
          go_wp2_with (first
            | (at_builtin
               refine app_strs _ rfl (.tmp 41) (.tmp 43) rfl w _ recs rfl (HIO5.out.ext (Ext.alloc v5 _)) (some ⟨v5.heap.size, 0, none⟩) 1 1 [x] rfl rfl (by exact Rd.new v5 #[_] 9) (by simp; omega) (HX5.out.trans (Ext.alloc v5 _)) ?_
               intro v6 w6 hown hext
               obtain ⟨A6, n6, c6, rfl⟩ := own_shape hown
               have HIO6 := Lib.hid hown
               have HX6 := Lib.hid hext
               clear hown hext))
          refine (frameF_any x w6 (by omega)).mono ?_
          rintro e w7 ⟨rfl, hx7⟩
          have HX7 := Lib.hid (HX6.out.trans hx7)
          have HIO7 := Lib.hid (HIO6.out.ext hx7)
          have HAP : Hid (bs (frmsB recs) ++ bs (frm x.toList) = bs (frmsB (recs ++ [x]))) := Lib.hid (by
            rw [bs_app]
            unfold frmsB
            rw [List.map_append, frms_app]
            simp [frms])
          clear hx7
          generalize bs (frm x.toList) = fr at hfx HAP ⊢
          generalize bs (frmsB recs) = fo at hfz HAP ⊢
          go_wp2_with fail
          go_roundw
          case rel =>
            refine ⟨k + 1, recs ++ [x], by omega, by omega, by go_num, by rw [HAP.out], HIO7.out, HX7.out, by rw [List.length_append]; simp; omega, fun y hy => ?_⟩
            rcases List.mem_append.1 hy with hy | hy
            · exact HRG.out y hy
            · obtain rfl := List.mem_singleton.1 hy
              exact ⟨hg, by omega⟩
          case measure => simp [intOf]; omega
      · have hkK : ¬ (k : Int) < 10 := by omega
        have hkI : (k : Int) < (n : Int) := by omega
        obtain ⟨Ai, ci, rfl⟩ := own_len HIO.out
        have hfz2 := bs_size (frmsB recs)
        by_cases he : (frmsB recs).length = 0
        · have hem : (bs (frmsB recs)).toList.isEmpty = true := by rw [List.isEmpty_iff_length_eq_zero, bs_list, he]
          go_wp2_with fail
          refine (known_any _).mono ?_
          rintro e w9 ⟨rfl, hx9⟩
          go_wp2_with fail
          go_ret
          exact ⟨rfl, HX.out.trans hx9⟩
        have hem : (bs (frmsB recs)).toList.isEmpty = false := by
          rw [← Bool.not_eq_true, List.isEmpty_iff_length_eq_zero, bs_list]
          exact he
        by_cases hy0 : y = 0
        · subst hy0
          go_wp2_with fail
          refine (known_any _).mono ?_
          rintro e w9 ⟨rfl, hx9⟩
          go_wp2_with fail
          go_ret
          exact ⟨rfl, HX.out.trans hx9⟩
        have hyB : ((y : Int) == 0) = false := by simp; omega
        obtain ⟨kk, hkk⟩ : ∃ kk, kk = ct % (frmsB recs).length := ⟨_, rfl⟩
        have hkl : kk < (frmsB recs).length := by
          have := Nat.mod_lt ct (show 0 < (frmsB recs).length by omega)
          omega
        have hkI9 : (ct : Int) % ((frmsB recs).length : Int) = (kk : Int) := by rw [hkk]; simp
        have hlz : ¬ (((frmsB recs).length : Int) = 0) := by omega
        have HG := Lib.hid (fun x hx => (HRG.out x hx).1)
        clear hkk
        go_upto_region 13 with fail
        rw [hkI9]
        clear hkI9 hlz hem hyB he
        obtain ⟨fs, hfs⟩ : ∃ fs, bs (frmsB recs) = fs := ⟨_, rfl⟩
        rw [hfs] at hfz hfz2 ⊢
        have HFS := Lib.hid hfs
        clear hfs
        go_wp2_with fail
        refine (new_own wr _ (Ext.refl _)).mono ?_
        rintro e w1 ⟨g, rfl, hf1, hx1⟩
        have HF1 := Lib.hid hf1
        have HX1 := Lib.hid hx1
        obtain ⟨cc, hcc⟩ : ∃ cc, (frmsB recs)[kk]? = some cc := ⟨_, List.getElem?_eq_getElem hkl⟩
        obtain ⟨d, hd⟩ : ∃ d, d = UInt8.ofNat (cc.toNat ^^^ y) := ⟨_, rfl⟩
        have hcl := cc.toNat_lt
        have hdn : d.toNat = cc.toNat ^^^ y := by
          rw [hd, UInt8.toNat_ofNat']
          exact Nat.mod_eq_of_lt (Nat.xor_lt_two_pow (n := 8) (by omega) (by omega))
        have hdc : d ≠ cc := by
          intro e
          have h1 : cc.toNat ^^^ y = cc.toNat ^^^ 0 := by rw [← hdn, e, Nat.xor_zero]
          have h2 := congrArg (fun z => cc.toNat ^^^ z) h1
          simp only [← Nat.xor_assoc, Nat.xor_self, Nat.zero_xor] at h2
          exact hy0 h2
        have hbk : kk < fs.size := by omega
        have hsk : fs[kk] = cc := by
          have h1 := hcc
          rw [← bs_list (frmsB recs), HFS.out, Lib.toList_data, Array.getElem?_toList] at h1
          obtain ⟨_, h2⟩ := Array.getElem?_eq_some_iff.1 h1
          exact h2
        have hxv : bits BinOp.xor IntKind.u8 (fs[kk].toNat : Int) (y : Int) = (d.toNat : Int) := by
          rw [hsk, hdn]
          exact u8_xor_nat cc.toNat y (by omega) (by omega)
        have HCC := Lib.hid hcc
        have HDC := Lib.hid hdc
        have hkJ : kk ≤ fs.size := by omega
        have hkK : kk + 1 ≤ fs.size := by omega
        have HFZ := Lib.hid hfz2
        have hfz4 : fs.size ≤ 4080 := by omega
        have hkW : IntKind.i64.wrap ((kk : Int) + 1) = (kk : Int) + 1 := IntWalk.i64_in _ (by omega)
        have hkV : (0 : Int) ≤ (kk : Int) + 1 ∧ (kk : Int) + 1 ≤ (fs.size : Int) := by omega
        have hkU : ((kk : Int) + 1).toNat = kk + 1 := by omega
        clear hfz2 hkl hfz hsk hcl hf1 hx1 hcc hd hdn hdc
        go_wp2_with fail
        refine wp_region_held_drew (S := fun _ => True) (by kernel_rfl) trivial (fun hHeld => ?_)
        have hxt : Ext w1 w1.drew := Ext.drew _
        generalize w1.drew = v2 at hxt hHeld ⊢
        refine' wpAnyH_take (i := 0) (oi := _) (v := _) ?hi19 ?hs19 ?hf19 ?hr19 ?hQ19 (Or.inl ⟨?hw19, ?hy19⟩) (by assumption) ?hrest19
        case hi19 => simp only [List.getElem?_toArray]; rfl
        case hs19 => kernel_rfl
        case hf19 => kernel_rfl
        case hr19 => kernel_rfl
        case hQ19 => exact fun _ _ _ h => h
        case hw19 => rfl
        case hy19 => intro w hSw; (try dsimp only at hSw); go_simp; try with_reducible rfl
        try simp only [Act.put, List.setIfInBounds_toArray, List.set_cons_zero, List.set_cons_succ]
        refine' wpAnyH_take (i := 1) (oi := _) (v := _) ?hi20 ?hs20 ?hf20 ?hr20 ?hQ20 (Or.inl ⟨?hw20, ?hy20⟩) (by assumption) ?hrest20
        case hi20 => simp only [List.getElem?_toArray]; rfl
        case hs20 => kernel_rfl
        case hf20 => kernel_rfl
        case hr20 => kernel_rfl
        case hQ20 => exact fun _ _ _ h => h
        case hw20 => rfl
        case hy20 => intro w hSw; (try dsimp only at hSw); go_simp; try with_reducible rfl
        try simp only [Act.put, List.setIfInBounds_toArray, List.set_cons_zero, List.set_cons_succ]
        refine' wpAnyH_take (i := 2) (oi := _) (v := _) ?hi21 ?hs21 ?hf21 ?hr21 ?hQ21 (Or.inl ⟨?hw21, ?hy21⟩) (by assumption) ?hrest21
        case hi21 => simp only [List.getElem?_toArray]; rfl
        case hs21 => kernel_rfl
        case hf21 => kernel_rfl
        case hr21 => kernel_rfl
        case hQ21 => exact fun _ _ _ h => h
        case hw21 => rfl
        case hy21 => intro w hSw; (try dsimp only at hSw); go_simp; try with_reducible rfl
        try simp only [Act.put, List.setIfInBounds_toArray, List.set_cons_zero, List.set_cons_succ]
        refine' wpAnyH_take (i := 3) (oi := _) (v := _) ?hi22 ?hs22 ?hf22 ?hr22 ?hQ22 (Or.inl ⟨?hw22, ?hy22⟩) (by assumption) ?hrest22
        case hi22 => simp only [List.getElem?_toArray]; rfl
        case hs22 => kernel_rfl
        case hf22 => kernel_rfl
        case hr22 => kernel_rfl
        case hQ22 => exact fun _ _ _ h => h
        case hw22 => rfl
        case hy22 => intro w hSw; (try dsimp only at hSw); go_simp; try with_reducible rfl
        try simp only [Act.put, List.setIfInBounds_toArray, List.set_cons_zero, List.set_cons_succ]
        refine' wpAnyH_take (i := 4) (oi := _) (v := _) ?hi23 ?hs23 ?hf23 ?hr23 ?hQ23 (Or.inl ⟨?hw23, ?hy23⟩) (by assumption) ?hrest23
        case hi23 => simp only [List.getElem?_toArray]; rfl
        case hs23 => kernel_rfl
        case hf23 => kernel_rfl
        case hr23 => kernel_rfl
        case hQ23 => exact fun _ _ _ h => h
        case hw23 => rfl
        case hy23 => intro w hSw; (try dsimp only at hSw); go_simp; try with_reducible rfl
        try simp only [Act.put, List.setIfInBounds_toArray, List.set_cons_zero, List.set_cons_succ]
        refine' wpAnyH_take (i := 5) (oi := _) (v := _) ?hi24 ?hs24 ?hf24 ?hr24 ?hQ24 (Or.inl ⟨?hw24, ?hy24⟩) (by assumption) ?hrest24
        case hi24 => simp only [List.getElem?_toArray]; rfl
        case hs24 => kernel_rfl
        case hf24 => kernel_rfl
        case hr24 => kernel_rfl
        case hQ24 => exact fun _ _ _ h => h
        case hw24 => rfl
        case hy24 => intro w hSw; (try dsimp only at hSw); go_simp; try with_reducible rfl
        try simp only [Act.put, List.setIfInBounds_toArray, List.set_cons_zero, List.set_cons_succ]
        refine' wpAnyH_take (i := 6) (oi := _) (v := _) ?hi25 ?hs25 ?hf25 ?hr25 ?hQ25 (Or.inl ⟨?hw25, ?hy25⟩) (by assumption) ?hrest25
        case hi25 => simp only [List.getElem?_toArray]; rfl
        case hs25 => kernel_rfl
        case hf25 => kernel_rfl
        case hr25 => kernel_rfl
        case hQ25 => exact fun _ _ _ h => h
        case hw25 => rfl
        case hy25 => intro w hSw; (try dsimp only at hSw); go_simp; try with_reducible rfl
        try simp only [Act.put, List.setIfInBounds_toArray, List.set_cons_zero, List.set_cons_succ]
        refine' wpAnyH_take (i := 7) (oi := _) (v := _) ?hi26 ?hs26 ?hf26 ?hr26 ?hQ26 (Or.inl ⟨?hw26, ?hy26⟩) (by assumption) ?hrest26
        case hi26 => simp only [List.getElem?_toArray]; rfl
        case hs26 => kernel_rfl
        case hf26 => kernel_rfl
        case hr26 => kernel_rfl
        case hQ26 => exact fun _ _ _ h => h
        case hw26 => rfl
        case hy26 => intro w hSw; (try dsimp only at hSw); go_simp; try with_reducible rfl
        try simp only [Act.put, List.setIfInBounds_toArray, List.set_cons_zero, List.set_cons_succ]
        refine' wpAnyH_take (i := 8) (oi := _) (v := _) ?hi27 ?hs27 ?hf27 ?hr27 ?hQ27 (Or.inl ⟨?hw27, ?hy27⟩) (by assumption) ?hrest27
        case hi27 => simp only [List.getElem?_toArray]; rfl
        case hs27 => kernel_rfl
        case hf27 => kernel_rfl
        case hr27 => kernel_rfl
        case hQ27 => exact fun _ _ _ h => h
        case hw27 => rfl
        case hy27 => intro w hSw; (try dsimp only at hSw); go_simp; try with_reducible rfl
        try simp only [Act.put, List.setIfInBounds_toArray, List.set_cons_zero, List.set_cons_succ]
        refine' wpAnyH_take (i := 12) (oi := _) (v := _) ?hi28 ?hs28 ?hf28 ?hr28 ?hQ28 (Or.inl ⟨?hw28, ?hy28⟩) (by assumption) ?hrest28
        case hi28 => simp only [List.getElem?_toArray]; rfl
        case hs28 => kernel_rfl
        case hf28 => kernel_rfl
        case hr28 => kernel_rfl
        case hQ28 => exact fun _ _ _ h => h
        case hw28 => rfl
        case hy28 => intro w hSw; (try dsimp only at hSw); go_simp; try with_reducible rfl
        try simp only [Act.put, List.setIfInBounds_toArray, List.set_cons_zero, List.set_cons_succ]
        refine' wpAnyH_take (i := 13) (oi := _) (v := _) ?hi29 ?hs29 ?hf29 ?hr29 ?hQ29 (Or.inl ⟨?hw29, ?hy29⟩) (by assumption) ?hrest29
        case hi29 => simp only [List.getElem?_toArray]; rfl
        case hs29 => kernel_rfl
        case hf29 => kernel_rfl
        case hr29 => kernel_rfl
        case hQ29 => exact fun _ _ _ h => h
        case hw29 => rfl
        case hy29 => intro w hSw; (try dsimp only at hSw); go_simp; try with_reducible rfl
        try simp only [Act.put, List.setIfInBounds_toArray, List.set_cons_zero, List.set_cons_succ]
        refine' wpAnyH_take (i := 14) (oi := _) (v := _) ?hi30 ?hs30 ?hf30 ?hr30 ?hQ30 (Or.inl ⟨?hw30, ?hy30⟩) (by assumption) ?hrest30
        case hi30 => simp only [List.getElem?_toArray]; rfl
        case hs30 => kernel_rfl
        case hf30 => kernel_rfl
        case hr30 => kernel_rfl
        case hQ30 => exact fun _ _ _ h => h
        case hw30 => rfl
        case hy30 => intro w hSw; (try dsimp only at hSw); go_simp; try with_reducible rfl
        try simp only [Act.put, List.setIfInBounds_toArray, List.set_cons_zero, List.set_cons_succ]
        refine' wpAnyH_take (i := 15) (oi := _) (v := _) ?hi31 ?hs31 ?hf31 ?hr31 ?hQ31 (Or.inl ⟨?hw31, ?hy31⟩) (by assumption) ?hrest31
        case hi31 => simp only [List.getElem?_toArray]; rfl
        case hs31 => kernel_rfl
        case hf31 => kernel_rfl
        case hr31 => kernel_rfl
        case hQ31 => exact fun _ _ _ h => h
        case hw31 => rfl
        case hy31 => intro w hSw; (try dsimp only at hSw); go_simp; try with_reducible rfl
        try simp only [Act.put, List.setIfInBounds_toArray, List.set_cons_zero, List.set_cons_succ]
        refine wpAnyH_ready (rs := [9]) (by kernel_rfl) (by simp) ?_
        refine' AllReadyH.cons (o := _) ?ho32 (fun K hK => ?hstep32) AllReadyH.nil
        case ho32 => simp only [List.getElem?_toArray]; rfl
        go_simp
        have hr3 := Rd.new v2 #[.int .u8 (d.toNat : Int)] 5
        have hx3 := Ext.alloc v2 (.cells #[.int .u8 (d.toNat : Int)] 5)
        have hback := back (c := 1) (l := [d]) (n := 1) rfl hr3
        have hb3 := heap_alloc_new v2 (.cells #[.int .u8 (d.toNat : Int)] 5 (0, 0))
        generalize v2.heap.size = q3 at hback hr3 hb3 ⊢
        generalize v2.alloc (.cells #[.int .u8 (d.toNat : Int)] 5) = v3 at hback hx3 hr3 hb3 ⊢
        have HR3 := Lib.hid hr3
        have HB3 := Lib.hid hb3
        clear hr3 hb3
        refine hK.out _ _ (trivial) (fun hHeld => ?_)
        clear hK K
        try simp only [Act.put, List.setIfInBounds_toArray, List.set_cons_zero, List.set_cons_succ]
        refine wpAnyH_swap (S' := (fun wz => (convert 50 9 (.slice (some ⟨q3, 0, none⟩) 1 1)).run Try.prog wz = .ok (.string ⟨[d].toArray⟩) wz)) ((fun _ _ => trivial)) _ _ _ _ ?_
        have hep : (fs.extract 0 kk).size = kk := by rw [ByteArray.size_extract]; omega
        have her : (fs.extract (kk + 1) fs.size).size = fs.size - (kk + 1) := by rw [ByteArray.size_extract]; omega
        have hed : (⟨[d].toArray⟩ : ByteArray).size = 1 := rfl
        have HSET : Hid ((fs.extract 0 kk ++ ⟨[d].toArray⟩ ++ fs.extract (kk + 1) fs.size).toList = (frmsB recs).set kk d) := Lib.hid (set_text fs kk d hbk (by rw [← HFS.out, bs_list]))
        have HF3 := Lib.hid (HF1.out.later (hxt.trans hx3))
        generalize fs.extract 0 kk = fp at hep HSET ⊢
        generalize fs.extract (kk + 1) fs.size = fr at her HSET ⊢
        obtain ⟨fd, hfd⟩ : ∃ fd, (⟨[d].toArray⟩ : ByteArray) = fd := ⟨_, rfl⟩
        rw [hfd] at hback hed HSET ⊢
        have hb1 : ¬ (9223372036854775807 < fp.size + fd.size) := by omega
        have hb2 : ¬ (9223372036854775807 < fp.size + fd.size + fr.size) := by omega
        have hsz3 : (fp ++ fd ++ fr).size ≤ 16777216 := by rw [ByteArray.size_append, ByteArray.size_append]; omega
        have HEP := Lib.hid (And.intro hep (And.intro her hed))
        have HFD := Lib.hid hfd
        clear hep her hed hfd
        refine' wpAnyH_take (i := 10) (oi := _) (v := _) ?hi35 ?hs35 ?hf35 ?hr35 ?hQ35 (Or.inl ⟨?hw35, ?hy35⟩) (by assumption) ?hrest35
        case hi35 => simp only [List.getElem?_toArray]; rfl
        case hs35 => kernel_rfl
        case hf35 => kernel_rfl
        case hr35 => kernel_rfl
        case hQ35 => exact fun _ _ _ h => h
        case hw35 => rfl
        case hy35 => intro w hSw; (try dsimp only at hSw); go_simp; try with_reducible rfl
        try simp only [Act.put, List.setIfInBounds_toArray, List.set_cons_zero, List.set_cons_succ]
        refine' wpAnyH_take (i := 11) (oi := _) (v := _) ?hi36 ?hs36 ?hf36 ?hr36 ?hQ36 (Or.inl ⟨?hw36, ?hy36⟩) (by assumption) ?hrest36
        case hi36 => simp only [List.getElem?_toArray]; rfl
        case hs36 => kernel_rfl
        case hf36 => kernel_rfl
        case hr36 => kernel_rfl
        case hQ36 => exact fun _ _ _ h => h
        case hw36 => rfl
        case hy36 => intro w hSw; (try dsimp only at hSw); go_simp; try with_reducible rfl
        try simp only [Act.put, List.setIfInBounds_toArray, List.set_cons_zero, List.set_cons_succ]
        refine' wpAnyH_take (i := 16) (oi := _) (v := _) ?hi37 ?hs37 ?hf37 ?hr37 ?hQ37 (Or.inl ⟨?hw37, ?hy37⟩) (by assumption) ?hrest37
        case hi37 => simp only [List.getElem?_toArray]; rfl
        case hs37 => kernel_rfl
        case hf37 => kernel_rfl
        case hr37 => kernel_rfl
        case hQ37 => exact fun _ _ _ h => h
        case hw37 => rfl
        case hy37 => intro w hSw; (try dsimp only at hSw); go_simp; try with_reducible rfl
        try simp only [Act.put, List.setIfInBounds_toArray, List.set_cons_zero, List.set_cons_succ]
        refine wpAnyH_ready (rs := [17]) (by kernel_rfl) (by simp) ?_
        refine' AllReadyH.cons (o := _) ?ho38 (fun K hK => ?hstep38) AllReadyH.nil
        case ho38 => simp only [List.getElem?_toArray]; rfl
        go_simp
        generalize fp ++ fd ++ fr = fx at hsz3 HSET ⊢
        clear hb1 hb2 hback
        obtain ⟨L, f1, f2, f3, f4⟩ := HF3.out
        have hq3 : q3 ∉ L := f2.other HB3.out (by decide) (by decide)
        have hcall := append_did g L St.empty fx v3 f2 St.Ok.empty (by omega)
        rw [append_empty fx hsz3] at hcall
        refine hcall.mono ?_
        rintro e w4 ⟨rfl, hk4, L4, hf4, hs4⟩
        have hr4 := Kp.rd hk4 HR3.out (fun ad e => by injection e with e; rw [← e]; exact hq3)
        have HSW := Lib.hid (back (c := 1) (l := [d]) (n := 1) rfl hr4)
        rw [HFD.out] at HSW
        have HF4 : Hid (F1 wr w4 g ⟨fx, 0, none, none⟩) := Lib.hid ⟨L4, hk4.to_ext f1 f3, hf4, fun k hk => (hs4 k hk).elim (f3 k) (fun hh => Nat.le_trans f1.size hh), ok_of (append_empty fx hsz3) (St.Ok.empty.append _)⟩
        clear hcall hk4 hf4 hs4 hr4 hq3 f1 f2 f3 f4
        refine hK.out _ _ (HSW.out) (fun hHeld => ?_)
        clear hK K
        try simp only [Act.put, List.setIfInBounds_toArray, List.set_cons_zero, List.set_cons_succ]
        refine wpAnyH_done (by kernel_rfl) ?_ _
        clear hxt hx3 hHeld
        obtain ⟨nn, rt, hn1, hn2, hn3, hn4, hn5⟩ := open_turn HG.out kk cc d HCC.out HDC.out fx HSET.out
        go_wp2_with fail
        refine (HF4.out.opened).mono ?_
        rintro e w5 ⟨lg, rfl, hl5⟩
        have hs5 : (openL g ⟨fx, 0, none, none⟩).l = recs.take nn ++ rt := hn4
        generalize openL g ⟨fx, 0, none, none⟩ = S5 at hl5 hs5
        have HL5 := Lib.hid hl5
        have HS5 := Lib.hid hs5
        have HN3 := Lib.hid hn3
        have HN5 := Lib.hid hn5
        have hrt : (recs.take nn ++ rt).length ≤ 1000 := by
          have h1 := frms_len8 (readL fx.toList) (read_good fx.toList).1
          obtain ⟨_, tl, h2, _⟩ := read_good fx.toList
          have h3 := congrArg List.length h2
          rw [List.length_append, size_list] at h3
          rw [← hn4, List.length_map]
          have h4 : fx.size = fs.size := by
            have := congrArg List.length HSET.out
            rw [List.length_set, size_list] at this
            have := HFZ.out
            omega
          omega
        clear hl5 hs5 hn3 hn4 hn5
        have HRR := Lib.hid ((own_txt (own_base (HIO.out.ext HL5.out.ext))))
        have hkz : kk ≤ 4080 := by omega
        go_wp2_with fail
        go_loopw [15, 16] (fun nv sz wz => ∃ i a : Nat, i ≤ nn ∧ nv = .int .i64 (i : Int) ∧ sz = .int .i64 (a : Int) ∧ a = (frmsB (recs.take i)).length ∧ wz = w5) (fun nv _ _ => nn - (intOf nv).toNat)
        case atStart => exact ⟨0, 0, by omega, rfl, rfl, rfl, rfl⟩
        case round =>
          obtain ⟨i, a, hi, rfl, rfl, ha, rfl⟩ := hrel
          have hakk : a ≤ kk := by have := frms_mono recs hi; omega
          have HA := Lib.hid ha
          obtain ⟨s, hsk⟩ : ∃ s, recs[i]? = some s := ⟨_, List.getElem?_eq_getElem (by omega)⟩
          obtain ⟨ad, hAi, hcell⟩ := (txt_rd HRR.out).some_ (by rw [List.length_map]; omega)
          subst hAi
          have c0 := hcell i (.string s) (by rw [List.getElem?_map, hsk]; rfl)
          have hnz := (HRG.out s (List.mem_of_getElem? hsk)).2
          have hnx := frms_next hsk (HRG.out s (List.mem_of_getElem? hsk)).1
          rw [← HA.out] at hnx
          have hiI : (i : Int) < (recs.length : Int) := by omega
          have hiJ : (0 : Int) ≤ (i : Int) := by omega
          clear hcell ha
          by_cases hin : i < nn
          · have hak2 : (a : Int) + (s.size : Int) + 8 ≤ (kk : Int) := by have := frms_mono recs (show i + 1 ≤ nn from hin); omega
            have HNX := Lib.hid hnx
            clear hnx hsk
            go_wp2_with fail
            exact ⟨⟨i + 1, a + s.size + 8, by omega, by go_num, by go_num, HNX.out.symm, trivial⟩, by simp [intOf]; omega⟩
          · obtain rfl : i = nn := by omega
            have hak2 : ¬ (a : Int) + (s.size : Int) + 8 ≤ (kk : Int) := by have := HN3.out s hsk; rw [← HA.out] at this; omega
            clear hnx hsk
            go_wp2_with fail
            refine (HL5.out.records (by rw [HS5.out]; omega)).mono ?_
            rw [HS5.out]
            rintro e w6 ⟨u6, rfl, hu6, hx6⟩
            obtain ⟨A6, c6, rfl⟩ := own_len hu6
            have HU6 := Lib.hid (own_txt (own_base hu6))
            have HX6 := Lib.hid (HL5.out.ext.trans hx6)
            have HRR6 := Lib.hid (HRR.out.ext hx6)
            have hll : (recs.take i ++ rt).length = i + rt.length := by rw [List.length_append, List.length_take, Nat.min_eq_left (by omega)]
            obtain ⟨m, hm⟩ : ∃ m, m = i + rt.length := ⟨_, rfl⟩
            rw [hll, ← hm] at HU6 ⊢
            have him : i ≤ m := by omega
            have himI : ((i : Int) ≤ (m : Int)) := by omega
            have hir : i ≤ recs.length := by omega
            have HT1 := Lib.hid (txt_pre HU6.out him (recs.take i) (by rw [List.take_left' (by rw [List.length_take]; omega)]))
            have HT2 := Lib.hid (txt_pre HRR6.out hir (recs.take i) rfl)
            have hc6 : i ≤ c6 := Nat.le_trans him (txt_cap HU6.out).1
            have hci : i ≤ ci := Nat.le_trans hir (txt_cap HRR6.out).1
            have haW : IntKind.i64.wrap ((a : Int) + 4) = (a : Int) + 4 := IntWalk.i64_in _ (by omega)
            have HM := Lib.hid hm
            clear hu6 hx6 c0 hll hm
            by_cases hk4 : kk < a + 4
            · have hk4I : (kk : Int) < (a : Int) + 4 := by omega
              go_wp2_with fail
              refine wp_region_held_drew (S := fun _ => True) (by kernel_rfl) trivial (fun hHeld => ?_)
              have hxt : Ext w6 w6.drew := Ext.drew _
              generalize w6.drew = v7 at hxt hHeld ⊢
              refine' wpAnyH_take (i := 0) (oi := _) (v := _) ?hi89 ?hs89 ?hf89 ?hr89 ?hQ89 (Or.inl ⟨?hw89, ?hy89⟩) (by assumption) ?hrest89
              case hi89 => simp only [List.getElem?_toArray]; rfl
              case hs89 => kernel_rfl
              case hf89 => kernel_rfl
              case hr89 => kernel_rfl
              case hQ89 => exact fun _ _ _ h => h
              case hw89 => rfl
              case hy89 => intro w hSw; (try dsimp only at hSw); go_simp; try with_reducible rfl
              try simp only [Act.put, List.setIfInBounds_toArray, List.set_cons_zero, List.set_cons_succ]
              refine' wpAnyH_take (i := 1) (oi := _) (v := _) ?hi90 ?hs90 ?hf90 ?hr90 ?hQ90 (Or.inl ⟨?hw90, ?hy90⟩) (by assumption) ?hrest90
              case hi90 => simp only [List.getElem?_toArray]; rfl
              case hs90 => kernel_rfl
              case hf90 => kernel_rfl
              case hr90 => kernel_rfl
              case hQ90 => exact fun _ _ _ h => h
              case hw90 => rfl
              case hy90 => intro w hSw; (try dsimp only at hSw); go_simp; try with_reducible rfl
              try simp only [Act.put, List.setIfInBounds_toArray, List.set_cons_zero, List.set_cons_succ]
              refine' wpAnyH_take (i := 2) (oi := _) (v := _) ?hi91 ?hs91 ?hf91 ?hr91 ?hQ91 (Or.inl ⟨?hw91, ?hy91⟩) (by assumption) ?hrest91
              case hi91 => simp only [List.getElem?_toArray]; rfl
              case hs91 => kernel_rfl
              case hf91 => kernel_rfl
              case hr91 => kernel_rfl
              case hQ91 => exact fun _ _ _ h => h
              case hw91 => rfl
              case hy91 => intro w hSw; (try dsimp only at hSw); go_simp; try with_reducible rfl
              try simp only [Act.put, List.setIfInBounds_toArray, List.set_cons_zero, List.set_cons_succ]
              refine' wpAnyH_take (i := 3) (oi := _) (v := _) ?hi92 ?hs92 ?hf92 ?hr92 ?hQ92 (Or.inl ⟨?hw92, ?hy92⟩) (by assumption) ?hrest92
              case hi92 => simp only [List.getElem?_toArray]; rfl
              case hs92 => kernel_rfl
              case hf92 => kernel_rfl
              case hr92 => kernel_rfl
              case hQ92 => exact fun _ _ _ h => h
              case hw92 => rfl
              case hy92 => intro w hSw; (try dsimp only at hSw); go_simp; try with_reducible rfl
              try simp only [Act.put, List.setIfInBounds_toArray, List.set_cons_zero, List.set_cons_succ]
              refine' wpAnyH_take (i := 4) (oi := _) (v := _) ?hi93 ?hs93 ?hf93 ?hr93 ?hQ93 (Or.inl ⟨?hw93, ?hy93⟩) (by assumption) ?hrest93
              case hi93 => simp only [List.getElem?_toArray]; rfl
              case hs93 => kernel_rfl
              case hf93 => kernel_rfl
              case hr93 => kernel_rfl
              case hQ93 => exact fun _ _ _ h => h
              case hw93 => rfl
              case hy93 => intro w hSw; (try dsimp only at hSw); go_simp; try with_reducible rfl
              try simp only [Act.put, List.setIfInBounds_toArray, List.set_cons_zero, List.set_cons_succ]
              refine' wpAnyH_take (i := 5) (oi := _) (v := _) ?hi94 ?hs94 ?hf94 ?hr94 ?hQ94 (Or.inl ⟨?hw94, ?hy94⟩) (by assumption) ?hrest94
              case hi94 => simp only [List.getElem?_toArray]; rfl
              case hs94 => kernel_rfl
              case hf94 => kernel_rfl
              case hr94 => kernel_rfl
              case hQ94 => exact fun _ _ _ h => h
              case hw94 => rfl
              case hy94 => intro w hSw; (try dsimp only at hSw); go_simp; try with_reducible rfl
              try simp only [Act.put, List.setIfInBounds_toArray, List.set_cons_zero, List.set_cons_succ]
              refine' wpAnyH_take (i := 6) (oi := _) (v := _) ?hi95 ?hs95 ?hf95 ?hr95 ?hQ95 (Or.inl ⟨?hw95, ?hy95⟩) (by assumption) ?hrest95
              case hi95 => simp only [List.getElem?_toArray]; rfl
              case hs95 => kernel_rfl
              case hf95 => kernel_rfl
              case hr95 => kernel_rfl
              case hQ95 => exact fun _ _ _ h => h
              case hw95 => rfl
              case hy95 => intro w hSw; (try dsimp only at hSw); go_simp; try with_reducible rfl
              try simp only [Act.put, List.setIfInBounds_toArray, List.set_cons_zero, List.set_cons_succ]
              refine' wpAnyH_take (i := 7) (oi := _) (v := _) ?hi96 ?hs96 ?hf96 ?hr96 ?hQ96 (Or.inl ⟨?hw96, ?hy96⟩) (by assumption) ?hrest96
              case hi96 => simp only [List.getElem?_toArray]; rfl
              case hs96 => kernel_rfl
              case hf96 => kernel_rfl
              case hr96 => kernel_rfl
              case hQ96 => exact fun _ _ _ h => h
              case hw96 => rfl
              case hy96 => intro w hSw; (try dsimp only at hSw); go_simp; try with_reducible rfl
              try simp only [Act.put, List.setIfInBounds_toArray, List.set_cons_zero, List.set_cons_succ]
              refine' wpAnyH_take (i := 8) (oi := _) (v := _) ?hi97 ?hs97 ?hf97 ?hr97 ?hQ97 (Or.inl ⟨?hw97, ?hy97⟩) (by assumption) ?hrest97
              case hi97 => simp only [List.getElem?_toArray]; rfl
              case hs97 => kernel_rfl
              case hf97 => kernel_rfl
              case hr97 => kernel_rfl
              case hQ97 => exact fun _ _ _ h => h
              case hw97 => rfl
              case hy97 => intro w hSw; (try dsimp only at hSw); go_simp; try with_reducible rfl
              try simp only [Act.put, List.setIfInBounds_toArray, List.set_cons_zero, List.set_cons_succ]
              refine' wpAnyH_take (i := 9) (oi := _) (v := _) ?hi98 ?hs98 ?hf98 ?hr98 ?hQ98 (Or.inl ⟨?hw98, ?hy98⟩) (by assumption) ?hrest98
              case hi98 => simp only [List.getElem?_toArray]; rfl
              case hs98 => kernel_rfl
              case hf98 => kernel_rfl
              case hr98 => kernel_rfl
              case hQ98 => exact fun _ _ _ h => h
              case hw98 => rfl
              case hy98 => intro w hSw; (try dsimp only at hSw); go_simp; try with_reducible rfl
              try simp only [Act.put, List.setIfInBounds_toArray, List.set_cons_zero, List.set_cons_succ]
              refine' wpAnyH_take (i := 10) (oi := _) (v := _) ?hi99 ?hs99 ?hf99 ?hr99 ?hQ99 (Or.inl ⟨?hw99, ?hy99⟩) (by assumption) ?hrest99
              case hi99 => simp only [List.getElem?_toArray]; rfl
              case hs99 => kernel_rfl
              case hf99 => kernel_rfl
              case hr99 => kernel_rfl
              case hQ99 => exact fun _ _ _ h => h
              case hw99 => rfl
              case hy99 => intro w hSw; (try dsimp only at hSw); go_simp; try with_reducible rfl
              try simp only [Act.put, List.setIfInBounds_toArray, List.set_cons_zero, List.set_cons_succ]
              refine wpAnyH_ready (rs := [11]) (by kernel_rfl) (by simp) ?_
              refine' AllReadyH.cons (o := _) ?ho100 (fun K hK => ?hstep100) AllReadyH.nil
              case ho100 => simp only [List.getElem?_toArray]; rfl
              go_simp
              refine (same_yes _ _ (recs.take i) (recs.take i) v7 (HT1.out.ext hxt) (HT2.out.ext hxt) rfl).mono ?_
              rintro e w8 ⟨rfl, hx8⟩
              refine hK.out _ _ (trivial) (fun hHeld => ?_)
              clear hK K
              try simp only [Act.put, List.setIfInBounds_toArray, List.set_cons_zero, List.set_cons_succ]
              refine' wpAnyH_take (i := 12) (oi := _) (v := _) ?hi102 ?hs102 ?hf102 ?hr102 ?hQ102 (Or.inl ⟨?hw102, ?hy102⟩) (by assumption) ?hrest102
              case hi102 => simp only [List.getElem?_toArray]; rfl
              case hs102 => kernel_rfl
              case hf102 => kernel_rfl
              case hr102 => kernel_rfl
              case hQ102 => exact fun _ _ _ h => h
              case hw102 => rfl
              case hy102 => intro w hSw; (try dsimp only at hSw); go_simp; try with_reducible rfl
              try simp only [Act.put, List.setIfInBounds_toArray, List.set_cons_zero, List.set_cons_succ]
              refine' wpAnyH_take (i := 13) (oi := _) (v := _) ?hi103 ?hs103 ?hf103 ?hr103 ?hQ103 (Or.inl ⟨?hw103, ?hy103⟩) (by assumption) ?hrest103
              case hi103 => simp only [List.getElem?_toArray]; rfl
              case hs103 => kernel_rfl
              case hf103 => kernel_rfl
              case hr103 => kernel_rfl
              case hQ103 => exact fun _ _ _ h => h
              case hw103 => rfl
              case hy103 => intro w hSw; (try dsimp only at hSw); go_simp; try with_reducible rfl
              try simp only [Act.put, List.setIfInBounds_toArray, List.set_cons_zero, List.set_cons_succ]
              refine' wpAnyH_take (i := 14) (oi := _) (v := _) ?hi104 ?hs104 ?hf104 ?hr104 ?hQ104 (Or.inl ⟨?hw104, ?hy104⟩) (by assumption) ?hrest104
              case hi104 => simp only [List.getElem?_toArray]; rfl
              case hs104 => kernel_rfl
              case hf104 => kernel_rfl
              case hr104 => kernel_rfl
              case hQ104 => exact fun _ _ _ h => h
              case hw104 => rfl
              case hy104 => intro w hSw; (try dsimp only at hSw); go_simp; try with_reducible rfl
              try simp only [Act.put, List.setIfInBounds_toArray, List.set_cons_zero, List.set_cons_succ]
              refine' wpAnyH_take (i := 15) (oi := _) (v := _) ?hi105 ?hs105 ?hf105 ?hr105 ?hQ105 (Or.inl ⟨?hw105, ?hy105⟩) (by assumption) ?hrest105
              case hi105 => simp only [List.getElem?_toArray]; rfl
              case hs105 => kernel_rfl
              case hf105 => kernel_rfl
              case hr105 => kernel_rfl
              case hQ105 => exact fun _ _ _ h => h
              case hw105 => rfl
              case hy105 => intro w hSw; (try dsimp only at hSw); go_simp; try with_reducible rfl
              try simp only [Act.put, List.setIfInBounds_toArray, List.set_cons_zero, List.set_cons_succ]
              refine' wpAnyH_take (i := 16) (oi := _) (v := _) ?hi106 ?hs106 ?hf106 ?hr106 ?hQ106 (Or.inl ⟨?hw106, ?hy106⟩) (by assumption) ?hrest106
              case hi106 => simp only [List.getElem?_toArray]; rfl
              case hs106 => kernel_rfl
              case hf106 => kernel_rfl
              case hr106 => kernel_rfl
              case hQ106 => exact fun _ _ _ h => h
              case hw106 => rfl
              case hy106 => intro w hSw; (try dsimp only at hSw); go_simp; try with_reducible rfl
              try simp only [Act.put, List.setIfInBounds_toArray, List.set_cons_zero, List.set_cons_succ]
              refine' wpAnyH_take (i := 17) (oi := _) (v := _) ?hi107 ?hs107 ?hf107 ?hr107 ?hQ107 (Or.inl ⟨?hw107, ?hy107⟩) (by assumption) ?hrest107
              case hi107 => simp only [List.getElem?_toArray]; rfl
              case hs107 => kernel_rfl
              case hf107 => kernel_rfl
              case hr107 => kernel_rfl
              case hQ107 => exact fun _ _ _ h => h
              case hw107 => rfl
              case hy107 => intro w hSw; (try dsimp only at hSw); go_simp; try with_reducible rfl
              try simp only [Act.put, List.setIfInBounds_toArray, List.set_cons_zero, List.set_cons_succ]
              refine' wpAnyH_take (i := 18) (oi := _) (v := _) ?hi108 ?hs108 ?hf108 ?hr108 ?hQ108 (Or.inl ⟨?hw108, ?hy108⟩) (by assumption) ?hrest108
              case hi108 => simp only [List.getElem?_toArray]; rfl
              case hs108 => kernel_rfl
              case hf108 => kernel_rfl
              case hr108 => kernel_rfl
              case hQ108 => exact fun _ _ _ h => h
              case hw108 => rfl
              case hy108 => intro w hSw; (try dsimp only at hSw); go_simp; try with_reducible rfl
              try simp only [Act.put, List.setIfInBounds_toArray, List.set_cons_zero, List.set_cons_succ]
              refine' wpAnyH_take (i := 19) (oi := _) (v := undef) ?hi42 ?hs42 ?hf42 ?hr42 ?hQ42 (Or.inr ⟨?hw42, rfl⟩) (by assumption) ?hrest42
              case hi42 => simp only [List.getElem?_toArray]; rfl
              case hs42 => kernel_rfl
              case hf42 => kernel_rfl
              case hr42 => kernel_rfl
              case hQ42 => exact fun _ _ _ h => h
              case hw42 => rfl
              try simp only [Act.put, List.setIfInBounds_toArray, List.set_cons_zero, List.set_cons_succ]
              refine' wpAnyH_take (i := 20) (oi := _) (v := undef) ?hi43 ?hs43 ?hf43 ?hr43 ?hQ43 (Or.inr ⟨?hw43, rfl⟩) (by assumption) ?hrest43
              case hi43 => simp only [List.getElem?_toArray]; rfl
              case hs43 => kernel_rfl
              case hf43 => kernel_rfl
              case hr43 => kernel_rfl
              case hQ43 => exact fun _ _ _ h => h
              case hw43 => rfl
              try simp only [Act.put, List.setIfInBounds_toArray, List.set_cons_zero, List.set_cons_succ]
              refine' wpAnyH_take (i := 21) (oi := _) (v := undef) ?hi44 ?hs44 ?hf44 ?hr44 ?hQ44 (Or.inr ⟨?hw44, rfl⟩) (by assumption) ?hrest44
              case hi44 => simp only [List.getElem?_toArray]; rfl
              case hs44 => kernel_rfl
              case hf44 => kernel_rfl
              case hr44 => kernel_rfl
              case hQ44 => exact fun _ _ _ h => h
              case hw44 => rfl
              try simp only [Act.put, List.setIfInBounds_toArray, List.set_cons_zero, List.set_cons_succ]
              refine' wpAnyH_take (i := 22) (oi := _) (v := undef) ?hi45 ?hs45 ?hf45 ?hr45 ?hQ45 (Or.inr ⟨?hw45, rfl⟩) (by assumption) ?hrest45
              case hi45 => simp only [List.getElem?_toArray]; rfl
              case hs45 => kernel_rfl
              case hf45 => kernel_rfl
              case hr45 => kernel_rfl
              case hQ45 => exact fun _ _ _ h => h
              case hw45 => rfl
              try simp only [Act.put, List.setIfInBounds_toArray, List.set_cons_zero, List.set_cons_succ]
              refine' wpAnyH_take (i := 23) (oi := _) (v := _) ?hi109 ?hs109 ?hf109 ?hr109 ?hQ109 (Or.inl ⟨?hw109, ?hy109⟩) (by assumption) ?hrest109
              case hi109 => simp only [List.getElem?_toArray]; rfl
              case hs109 => kernel_rfl
              case hf109 => kernel_rfl
              case hr109 => kernel_rfl
              case hQ109 => exact fun _ _ _ h => h
              case hw109 => rfl
              case hy109 => intro w hSw; (try dsimp only at hSw); go_simp; try with_reducible rfl
              try simp only [Act.put, List.setIfInBounds_toArray, List.set_cons_zero, List.set_cons_succ]
              refine' wpAnyH_take (i := 24) (oi := _) (v := _) ?hi110 ?hs110 ?hf110 ?hr110 ?hQ110 (Or.inl ⟨?hw110, ?hy110⟩) (by assumption) ?hrest110
              case hi110 => simp only [List.getElem?_toArray]; rfl
              case hs110 => kernel_rfl
              case hf110 => kernel_rfl
              case hr110 => kernel_rfl
              case hQ110 => exact fun _ _ _ h => h
              case hw110 => rfl
              case hy110 => intro w hSw; (try dsimp only at hSw); go_simp; try with_reducible rfl
              try simp only [Act.put, List.setIfInBounds_toArray, List.set_cons_zero, List.set_cons_succ]
              refine' wpAnyH_take (i := 25) (oi := _) (v := _) ?hi111 ?hs111 ?hf111 ?hr111 ?hQ111 (Or.inl ⟨?hw111, ?hy111⟩) (by assumption) ?hrest111
              case hi111 => simp only [List.getElem?_toArray]; rfl
              case hs111 => kernel_rfl
              case hf111 => kernel_rfl
              case hr111 => kernel_rfl
              case hQ111 => exact fun _ _ _ h => h
              case hw111 => rfl
              case hy111 => intro w hSw; (try dsimp only at hSw); go_simp; try with_reducible rfl
              try simp only [Act.put, List.setIfInBounds_toArray, List.set_cons_zero, List.set_cons_succ]
              refine wpAnyH_ready (rs := [26]) (by kernel_rfl) (by simp) ?_
              refine' AllReadyH.cons (o := _) ?ho112 (fun K hK => ?hstep112) AllReadyH.nil
              case ho112 => simp only [List.getElem?_toArray]; rfl
              go_simp
              refine (known_any _).mono ?_
              rintro e w9 ⟨rfl, hx9⟩
              refine hK.out _ _ (trivial) (fun hHeld => ?_)
              clear hK K
              try simp only [Act.put, List.setIfInBounds_toArray, List.set_cons_zero, List.set_cons_succ]
              refine' wpAnyH_take (i := 27) (oi := _) (v := _) ?hi114 ?hs114 ?hf114 ?hr114 ?hQ114 (Or.inl ⟨?hw114, ?hy114⟩) (by assumption) ?hrest114
              case hi114 => simp only [List.getElem?_toArray]; rfl
              case hs114 => kernel_rfl
              case hf114 => kernel_rfl
              case hr114 => kernel_rfl
              case hQ114 => exact fun _ _ _ h => h
              case hw114 => rfl
              case hy114 => intro w hSw; (try dsimp only at hSw); go_simp; try with_reducible rfl
              try simp only [Act.put, List.setIfInBounds_toArray, List.set_cons_zero, List.set_cons_succ]
              refine' wpAnyH_take (i := 28) (oi := _) (v := _) ?hi115 ?hs115 ?hf115 ?hr115 ?hQ115 (Or.inl ⟨?hw115, ?hy115⟩) (by assumption) ?hrest115
              case hi115 => simp only [List.getElem?_toArray]; rfl
              case hs115 => kernel_rfl
              case hf115 => kernel_rfl
              case hr115 => kernel_rfl
              case hQ115 => exact fun _ _ _ h => h
              case hw115 => rfl
              case hy115 => intro w hSw; (try dsimp only at hSw); go_simp; try with_reducible rfl
              try simp only [Act.put, List.setIfInBounds_toArray, List.set_cons_zero, List.set_cons_succ]
              refine wpAnyH_done (by kernel_rfl) ?_ _
              go_wp2_with fail
              go_ret
              exact ⟨rfl, HX.out.trans (HX6.out.trans (hxt.trans (hx8.trans hx9)))⟩
            · have hk4I : decide ((kk : Int) < (a : Int) + 4) = false := decide_eq_false (by omega)
              obtain rfl : i = m := by
                have := HN5.out (by rw [← HA.out]; omega)
                have hm := HM.out
                rw [this] at hm
                simpa using hm.symm
              go_wp2_with fail
              refine wp_region_held_drew (S := fun _ => True) (by kernel_rfl) trivial (fun hHeld => ?_)
              have hxt : Ext w6 w6.drew := Ext.drew _
              generalize w6.drew = v7 at hxt hHeld ⊢
              refine' wpAnyH_take (i := 0) (oi := _) (v := _) ?hi117 ?hs117 ?hf117 ?hr117 ?hQ117 (Or.inl ⟨?hw117, ?hy117⟩) (by assumption) ?hrest117
              case hi117 => simp only [List.getElem?_toArray]; rfl
              case hs117 => kernel_rfl
              case hf117 => kernel_rfl
              case hr117 => kernel_rfl
              case hQ117 => exact fun _ _ _ h => h
              case hw117 => rfl
              case hy117 => intro w hSw; (try dsimp only at hSw); go_simp; try with_reducible rfl
              try simp only [Act.put, List.setIfInBounds_toArray, List.set_cons_zero, List.set_cons_succ]
              refine' wpAnyH_take (i := 1) (oi := _) (v := _) ?hi118 ?hs118 ?hf118 ?hr118 ?hQ118 (Or.inl ⟨?hw118, ?hy118⟩) (by assumption) ?hrest118
              case hi118 => simp only [List.getElem?_toArray]; rfl
              case hs118 => kernel_rfl
              case hf118 => kernel_rfl
              case hr118 => kernel_rfl
              case hQ118 => exact fun _ _ _ h => h
              case hw118 => rfl
              case hy118 => intro w hSw; (try dsimp only at hSw); go_simp; try with_reducible rfl
              try simp only [Act.put, List.setIfInBounds_toArray, List.set_cons_zero, List.set_cons_succ]
              refine' wpAnyH_take (i := 2) (oi := _) (v := _) ?hi119 ?hs119 ?hf119 ?hr119 ?hQ119 (Or.inl ⟨?hw119, ?hy119⟩) (by assumption) ?hrest119
              case hi119 => simp only [List.getElem?_toArray]; rfl
              case hs119 => kernel_rfl
              case hf119 => kernel_rfl
              case hr119 => kernel_rfl
              case hQ119 => exact fun _ _ _ h => h
              case hw119 => rfl
              case hy119 => intro w hSw; (try dsimp only at hSw); go_simp; try with_reducible rfl
              try simp only [Act.put, List.setIfInBounds_toArray, List.set_cons_zero, List.set_cons_succ]
              refine' wpAnyH_take (i := 3) (oi := _) (v := _) ?hi120 ?hs120 ?hf120 ?hr120 ?hQ120 (Or.inl ⟨?hw120, ?hy120⟩) (by assumption) ?hrest120
              case hi120 => simp only [List.getElem?_toArray]; rfl
              case hs120 => kernel_rfl
              case hf120 => kernel_rfl
              case hr120 => kernel_rfl
              case hQ120 => exact fun _ _ _ h => h
              case hw120 => rfl
              case hy120 => intro w hSw; (try dsimp only at hSw); go_simp; try with_reducible rfl
              try simp only [Act.put, List.setIfInBounds_toArray, List.set_cons_zero, List.set_cons_succ]
              refine' wpAnyH_take (i := 4) (oi := _) (v := _) ?hi121 ?hs121 ?hf121 ?hr121 ?hQ121 (Or.inl ⟨?hw121, ?hy121⟩) (by assumption) ?hrest121
              case hi121 => simp only [List.getElem?_toArray]; rfl
              case hs121 => kernel_rfl
              case hf121 => kernel_rfl
              case hr121 => kernel_rfl
              case hQ121 => exact fun _ _ _ h => h
              case hw121 => rfl
              case hy121 => intro w hSw; (try dsimp only at hSw); go_simp; try with_reducible rfl
              try simp only [Act.put, List.setIfInBounds_toArray, List.set_cons_zero, List.set_cons_succ]
              refine' wpAnyH_take (i := 5) (oi := _) (v := _) ?hi122 ?hs122 ?hf122 ?hr122 ?hQ122 (Or.inl ⟨?hw122, ?hy122⟩) (by assumption) ?hrest122
              case hi122 => simp only [List.getElem?_toArray]; rfl
              case hs122 => kernel_rfl
              case hf122 => kernel_rfl
              case hr122 => kernel_rfl
              case hQ122 => exact fun _ _ _ h => h
              case hw122 => rfl
              case hy122 => intro w hSw; (try dsimp only at hSw); go_simp; try with_reducible rfl
              try simp only [Act.put, List.setIfInBounds_toArray, List.set_cons_zero, List.set_cons_succ]
              refine' wpAnyH_take (i := 6) (oi := _) (v := _) ?hi123 ?hs123 ?hf123 ?hr123 ?hQ123 (Or.inl ⟨?hw123, ?hy123⟩) (by assumption) ?hrest123
              case hi123 => simp only [List.getElem?_toArray]; rfl
              case hs123 => kernel_rfl
              case hf123 => kernel_rfl
              case hr123 => kernel_rfl
              case hQ123 => exact fun _ _ _ h => h
              case hw123 => rfl
              case hy123 => intro w hSw; (try dsimp only at hSw); go_simp; try with_reducible rfl
              try simp only [Act.put, List.setIfInBounds_toArray, List.set_cons_zero, List.set_cons_succ]
              refine' wpAnyH_take (i := 7) (oi := _) (v := _) ?hi124 ?hs124 ?hf124 ?hr124 ?hQ124 (Or.inl ⟨?hw124, ?hy124⟩) (by assumption) ?hrest124
              case hi124 => simp only [List.getElem?_toArray]; rfl
              case hs124 => kernel_rfl
              case hf124 => kernel_rfl
              case hr124 => kernel_rfl
              case hQ124 => exact fun _ _ _ h => h
              case hw124 => rfl
              case hy124 => intro w hSw; (try dsimp only at hSw); go_simp; try with_reducible rfl
              try simp only [Act.put, List.setIfInBounds_toArray, List.set_cons_zero, List.set_cons_succ]
              refine' wpAnyH_take (i := 8) (oi := _) (v := _) ?hi125 ?hs125 ?hf125 ?hr125 ?hQ125 (Or.inl ⟨?hw125, ?hy125⟩) (by assumption) ?hrest125
              case hi125 => simp only [List.getElem?_toArray]; rfl
              case hs125 => kernel_rfl
              case hf125 => kernel_rfl
              case hr125 => kernel_rfl
              case hQ125 => exact fun _ _ _ h => h
              case hw125 => rfl
              case hy125 => intro w hSw; (try dsimp only at hSw); go_simp; try with_reducible rfl
              try simp only [Act.put, List.setIfInBounds_toArray, List.set_cons_zero, List.set_cons_succ]
              refine' wpAnyH_take (i := 9) (oi := _) (v := _) ?hi126 ?hs126 ?hf126 ?hr126 ?hQ126 (Or.inl ⟨?hw126, ?hy126⟩) (by assumption) ?hrest126
              case hi126 => simp only [List.getElem?_toArray]; rfl
              case hs126 => kernel_rfl
              case hf126 => kernel_rfl
              case hr126 => kernel_rfl
              case hQ126 => exact fun _ _ _ h => h
              case hw126 => rfl
              case hy126 => intro w hSw; (try dsimp only at hSw); go_simp; try with_reducible rfl
              try simp only [Act.put, List.setIfInBounds_toArray, List.set_cons_zero, List.set_cons_succ]
              refine' wpAnyH_take (i := 10) (oi := _) (v := _) ?hi127 ?hs127 ?hf127 ?hr127 ?hQ127 (Or.inl ⟨?hw127, ?hy127⟩) (by assumption) ?hrest127
              case hi127 => simp only [List.getElem?_toArray]; rfl
              case hs127 => kernel_rfl
              case hf127 => kernel_rfl
              case hr127 => kernel_rfl
              case hQ127 => exact fun _ _ _ h => h
              case hw127 => rfl
              case hy127 => intro w hSw; (try dsimp only at hSw); go_simp; try with_reducible rfl
              try simp only [Act.put, List.setIfInBounds_toArray, List.set_cons_zero, List.set_cons_succ]
              refine wpAnyH_ready (rs := [11]) (by kernel_rfl) (by simp) ?_
              refine' AllReadyH.cons (o := _) ?ho128 (fun K hK => ?hstep128) AllReadyH.nil
              case ho128 => simp only [List.getElem?_toArray]; rfl
              go_simp
              refine (same_yes _ _ (recs.take i) (recs.take i) v7 (HT1.out.ext hxt) (HT2.out.ext hxt) rfl).mono ?_
              rintro e w8 ⟨rfl, hx8⟩
              refine hK.out _ _ (trivial) (fun hHeld => ?_)
              clear hK K
              try simp only [Act.put, List.setIfInBounds_toArray, List.set_cons_zero, List.set_cons_succ]
              refine' wpAnyH_take (i := 12) (oi := _) (v := _) ?hi130 ?hs130 ?hf130 ?hr130 ?hQ130 (Or.inl ⟨?hw130, ?hy130⟩) (by assumption) ?hrest130
              case hi130 => simp only [List.getElem?_toArray]; rfl
              case hs130 => kernel_rfl
              case hf130 => kernel_rfl
              case hr130 => kernel_rfl
              case hQ130 => exact fun _ _ _ h => h
              case hw130 => rfl
              case hy130 => intro w hSw; (try dsimp only at hSw); go_simp; try with_reducible rfl
              try simp only [Act.put, List.setIfInBounds_toArray, List.set_cons_zero, List.set_cons_succ]
              refine' wpAnyH_take (i := 13) (oi := _) (v := _) ?hi131 ?hs131 ?hf131 ?hr131 ?hQ131 (Or.inl ⟨?hw131, ?hy131⟩) (by assumption) ?hrest131
              case hi131 => simp only [List.getElem?_toArray]; rfl
              case hs131 => kernel_rfl
              case hf131 => kernel_rfl
              case hr131 => kernel_rfl
              case hQ131 => exact fun _ _ _ h => h
              case hw131 => rfl
              case hy131 => intro w hSw; (try dsimp only at hSw); go_simp; try with_reducible rfl
              try simp only [Act.put, List.setIfInBounds_toArray, List.set_cons_zero, List.set_cons_succ]
              refine' wpAnyH_take (i := 14) (oi := _) (v := _) ?hi132 ?hs132 ?hf132 ?hr132 ?hQ132 (Or.inl ⟨?hw132, ?hy132⟩) (by assumption) ?hrest132
              case hi132 => simp only [List.getElem?_toArray]; rfl
              case hs132 => kernel_rfl
              case hf132 => kernel_rfl
              case hr132 => kernel_rfl
              case hQ132 => exact fun _ _ _ h => h
              case hw132 => rfl
              case hy132 => intro w hSw; (try dsimp only at hSw); go_simp; try with_reducible rfl
              try simp only [Act.put, List.setIfInBounds_toArray, List.set_cons_zero, List.set_cons_succ]
              refine' wpAnyH_take (i := 15) (oi := _) (v := _) ?hi133 ?hs133 ?hf133 ?hr133 ?hQ133 (Or.inl ⟨?hw133, ?hy133⟩) (by assumption) ?hrest133
              case hi133 => simp only [List.getElem?_toArray]; rfl
              case hs133 => kernel_rfl
              case hf133 => kernel_rfl
              case hr133 => kernel_rfl
              case hQ133 => exact fun _ _ _ h => h
              case hw133 => rfl
              case hy133 => intro w hSw; (try dsimp only at hSw); go_simp; try with_reducible rfl
              try simp only [Act.put, List.setIfInBounds_toArray, List.set_cons_zero, List.set_cons_succ]
              refine' wpAnyH_take (i := 16) (oi := _) (v := _) ?hi134 ?hs134 ?hf134 ?hr134 ?hQ134 (Or.inl ⟨?hw134, ?hy134⟩) (by assumption) ?hrest134
              case hi134 => simp only [List.getElem?_toArray]; rfl
              case hs134 => kernel_rfl
              case hf134 => kernel_rfl
              case hr134 => kernel_rfl
              case hQ134 => exact fun _ _ _ h => h
              case hw134 => rfl
              case hy134 => intro w hSw; (try dsimp only at hSw); go_simp; try with_reducible rfl
              try simp only [Act.put, List.setIfInBounds_toArray, List.set_cons_zero, List.set_cons_succ]
              refine' wpAnyH_take (i := 17) (oi := _) (v := _) ?hi135 ?hs135 ?hf135 ?hr135 ?hQ135 (Or.inl ⟨?hw135, ?hy135⟩) (by assumption) ?hrest135
              case hi135 => simp only [List.getElem?_toArray]; rfl
              case hs135 => kernel_rfl
              case hf135 => kernel_rfl
              case hr135 => kernel_rfl
              case hQ135 => exact fun _ _ _ h => h
              case hw135 => rfl
              case hy135 => intro w hSw; (try dsimp only at hSw); go_simp; try with_reducible rfl
              try simp only [Act.put, List.setIfInBounds_toArray, List.set_cons_zero, List.set_cons_succ]
              refine' wpAnyH_take (i := 18) (oi := _) (v := _) ?hi136 ?hs136 ?hf136 ?hr136 ?hQ136 (Or.inl ⟨?hw136, ?hy136⟩) (by assumption) ?hrest136
              case hi136 => simp only [List.getElem?_toArray]; rfl
              case hs136 => kernel_rfl
              case hf136 => kernel_rfl
              case hr136 => kernel_rfl
              case hQ136 => exact fun _ _ _ h => h
              case hw136 => rfl
              case hy136 => intro w hSw; (try dsimp only at hSw); go_simp; try with_reducible rfl
              try simp only [Act.put, List.setIfInBounds_toArray, List.set_cons_zero, List.set_cons_succ]
              refine' wpAnyH_take (i := 19) (oi := _) (v := _) ?hi48 ?hs48 ?hf48 ?hr48 ?hQ48 (Or.inl ⟨?hw48, ?hy48⟩) (by assumption) ?hrest48
              case hi48 => simp only [List.getElem?_toArray]; rfl
              case hs48 => kernel_rfl
              case hf48 => kernel_rfl
              case hr48 => kernel_rfl
              case hQ48 => exact fun _ _ _ h => h
              case hw48 => rfl
              case hy48 => intro w hSw; (try dsimp only at hSw); go_simp; try with_reducible rfl
              try simp only [Act.put, List.setIfInBounds_toArray, List.set_cons_zero, List.set_cons_succ]
              refine' wpAnyH_take (i := 20) (oi := _) (v := _) ?hi49 ?hs49 ?hf49 ?hr49 ?hQ49 (Or.inl ⟨?hw49, ?hy49⟩) (by assumption) ?hrest49
              case hi49 => simp only [List.getElem?_toArray]; rfl
              case hs49 => kernel_rfl
              case hf49 => kernel_rfl
              case hr49 => kernel_rfl
              case hQ49 => exact fun _ _ _ h => h
              case hw49 => rfl
              case hy49 => intro w hSw; (try dsimp only at hSw); go_simp; try with_reducible rfl
              try simp only [Act.put, List.setIfInBounds_toArray, List.set_cons_zero, List.set_cons_succ]
              refine' wpAnyH_take (i := 21) (oi := _) (v := _) ?hi50 ?hs50 ?hf50 ?hr50 ?hQ50 (Or.inl ⟨?hw50, ?hy50⟩) (by assumption) ?hrest50
              case hi50 => simp only [List.getElem?_toArray]; rfl
              case hs50 => kernel_rfl
              case hf50 => kernel_rfl
              case hr50 => kernel_rfl
              case hQ50 => exact fun _ _ _ h => h
              case hw50 => rfl
              case hy50 => intro w hSw; (try dsimp only at hSw); go_simp; try with_reducible rfl
              try simp only [Act.put, List.setIfInBounds_toArray, List.set_cons_zero, List.set_cons_succ]
              refine' wpAnyH_take (i := 22) (oi := _) (v := _) ?hi51 ?hs51 ?hf51 ?hr51 ?hQ51 (Or.inl ⟨?hw51, ?hy51⟩) (by assumption) ?hrest51
              case hi51 => simp only [List.getElem?_toArray]; rfl
              case hs51 => kernel_rfl
              case hf51 => kernel_rfl
              case hr51 => kernel_rfl
              case hQ51 => exact fun _ _ _ h => h
              case hw51 => rfl
              case hy51 => intro w hSw; (try dsimp only at hSw); go_simp; try with_reducible rfl
              try simp only [Act.put, List.setIfInBounds_toArray, List.set_cons_zero, List.set_cons_succ]
              refine' wpAnyH_take (i := 23) (oi := _) (v := _) ?hi137 ?hs137 ?hf137 ?hr137 ?hQ137 (Or.inl ⟨?hw137, ?hy137⟩) (by assumption) ?hrest137
              case hi137 => simp only [List.getElem?_toArray]; rfl
              case hs137 => kernel_rfl
              case hf137 => kernel_rfl
              case hr137 => kernel_rfl
              case hQ137 => exact fun _ _ _ h => h
              case hw137 => rfl
              case hy137 => intro w hSw; (try dsimp only at hSw); go_simp; try with_reducible rfl
              try simp only [Act.put, List.setIfInBounds_toArray, List.set_cons_zero, List.set_cons_succ]
              refine' wpAnyH_take (i := 24) (oi := _) (v := _) ?hi138 ?hs138 ?hf138 ?hr138 ?hQ138 (Or.inl ⟨?hw138, ?hy138⟩) (by assumption) ?hrest138
              case hi138 => simp only [List.getElem?_toArray]; rfl
              case hs138 => kernel_rfl
              case hf138 => kernel_rfl
              case hr138 => kernel_rfl
              case hQ138 => exact fun _ _ _ h => h
              case hw138 => rfl
              case hy138 => intro w hSw; (try dsimp only at hSw); go_simp; try with_reducible rfl
              try simp only [Act.put, List.setIfInBounds_toArray, List.set_cons_zero, List.set_cons_succ]
              refine' wpAnyH_take (i := 25) (oi := _) (v := _) ?hi139 ?hs139 ?hf139 ?hr139 ?hQ139 (Or.inl ⟨?hw139, ?hy139⟩) (by assumption) ?hrest139
              case hi139 => simp only [List.getElem?_toArray]; rfl
              case hs139 => kernel_rfl
              case hf139 => kernel_rfl
              case hr139 => kernel_rfl
              case hQ139 => exact fun _ _ _ h => h
              case hw139 => rfl
              case hy139 => intro w hSw; (try dsimp only at hSw); go_simp; try with_reducible rfl
              try simp only [Act.put, List.setIfInBounds_toArray, List.set_cons_zero, List.set_cons_succ]
              refine wpAnyH_ready (rs := [26]) (by kernel_rfl) (by simp) ?_
              refine' AllReadyH.cons (o := _) ?ho140 (fun K hK => ?hstep140) AllReadyH.nil
              case ho140 => simp only [List.getElem?_toArray]; rfl
              go_simp
              refine (known_any _).mono ?_
              rintro e w9 ⟨rfl, hx9⟩
              refine hK.out _ _ (trivial) (fun hHeld => ?_)
              clear hK K
              try simp only [Act.put, List.setIfInBounds_toArray, List.set_cons_zero, List.set_cons_succ]
              refine' wpAnyH_take (i := 27) (oi := _) (v := _) ?hi142 ?hs142 ?hf142 ?hr142 ?hQ142 (Or.inl ⟨?hw142, ?hy142⟩) (by assumption) ?hrest142
              case hi142 => simp only [List.getElem?_toArray]; rfl
              case hs142 => kernel_rfl
              case hf142 => kernel_rfl
              case hr142 => kernel_rfl
              case hQ142 => exact fun _ _ _ h => h
              case hw142 => rfl
              case hy142 => intro w hSw; (try dsimp only at hSw); go_simp; try with_reducible rfl
              try simp only [Act.put, List.setIfInBounds_toArray, List.set_cons_zero, List.set_cons_succ]
              refine' wpAnyH_take (i := 28) (oi := _) (v := _) ?hi143 ?hs143 ?hf143 ?hr143 ?hQ143 (Or.inl ⟨?hw143, ?hy143⟩) (by assumption) ?hrest143
              case hi143 => simp only [List.getElem?_toArray]; rfl
              case hs143 => kernel_rfl
              case hf143 => kernel_rfl
              case hr143 => kernel_rfl
              case hQ143 => exact fun _ _ _ h => h
              case hw143 => rfl
              case hy143 => intro w hSw; (try dsimp only at hSw); go_simp; try with_reducible rfl
              try simp only [Act.put, List.setIfInBounds_toArray, List.set_cons_zero, List.set_cons_succ]
              refine wpAnyH_done (by kernel_rfl) ?_ _
              go_wp2_with fail
              go_ret
              exact ⟨rfl, HX.out.trans (HX6.out.trans (hxt.trans (hx8.trans hx9)))⟩
    · have hkI : ¬ (k : Int) < (n : Int) := by omega
      obtain ⟨Ai, ci, rfl⟩ := own_len HIO.out
      have hfz2 := bs_size (frmsB recs)
      by_cases he : (frmsB recs).length = 0
      · have hem : (bs (frmsB recs)).toList.isEmpty = true := by rw [List.isEmpty_iff_length_eq_zero, bs_list, he]
        go_wp2_with fail
        refine (known_any _).mono ?_
        rintro e w9 ⟨rfl, hx9⟩
        go_wp2_with fail
        go_ret
        exact ⟨rfl, HX.out.trans hx9⟩
      have hem : (bs (frmsB recs)).toList.isEmpty = false := by
        rw [← Bool.not_eq_true, List.isEmpty_iff_length_eq_zero, bs_list]
        exact he
      by_cases hy0 : y = 0
      · subst hy0
        go_wp2_with fail
        refine (known_any _).mono ?_
        rintro e w9 ⟨rfl, hx9⟩
        go_wp2_with fail
        go_ret
        exact ⟨rfl, HX.out.trans hx9⟩
      have hyB : ((y : Int) == 0) = false := by simp; omega
      obtain ⟨kk, hkk⟩ : ∃ kk, kk = ct % (frmsB recs).length := ⟨_, rfl⟩
      have hkl : kk < (frmsB recs).length := by
        have := Nat.mod_lt ct (show 0 < (frmsB recs).length by omega)
        omega
      have hkI9 : (ct : Int) % ((frmsB recs).length : Int) = (kk : Int) := by rw [hkk]; simp
      have hlz : ¬ (((frmsB recs).length : Int) = 0) := by omega
      have HG := Lib.hid (fun x hx => (HRG.out x hx).1)
      clear hkk
      go_upto_region 13 with fail
      rw [hkI9]
      clear hkI9 hlz hem hyB he
      obtain ⟨fs, hfs⟩ : ∃ fs, bs (frmsB recs) = fs := ⟨_, rfl⟩
      rw [hfs] at hfz hfz2 ⊢
      have HFS := Lib.hid hfs
      clear hfs
      go_wp2_with fail
      refine (new_own wr _ (Ext.refl _)).mono ?_
      rintro e w1 ⟨g, rfl, hf1, hx1⟩
      have HF1 := Lib.hid hf1
      have HX1 := Lib.hid hx1
      obtain ⟨cc, hcc⟩ : ∃ cc, (frmsB recs)[kk]? = some cc := ⟨_, List.getElem?_eq_getElem hkl⟩
      obtain ⟨d, hd⟩ : ∃ d, d = UInt8.ofNat (cc.toNat ^^^ y) := ⟨_, rfl⟩
      have hcl := cc.toNat_lt
      have hdn : d.toNat = cc.toNat ^^^ y := by
        rw [hd, UInt8.toNat_ofNat']
        exact Nat.mod_eq_of_lt (Nat.xor_lt_two_pow (n := 8) (by omega) (by omega))
      have hdc : d ≠ cc := by
        intro e
        have h1 : cc.toNat ^^^ y = cc.toNat ^^^ 0 := by rw [← hdn, e, Nat.xor_zero]
        have h2 := congrArg (fun z => cc.toNat ^^^ z) h1
        simp only [← Nat.xor_assoc, Nat.xor_self, Nat.zero_xor] at h2
        exact hy0 h2
      have hbk : kk < fs.size := by omega
      have hsk : fs[kk] = cc := by
        have h1 := hcc
        rw [← bs_list (frmsB recs), HFS.out, Lib.toList_data, Array.getElem?_toList] at h1
        obtain ⟨_, h2⟩ := Array.getElem?_eq_some_iff.1 h1
        exact h2
      have hxv : bits BinOp.xor IntKind.u8 (fs[kk].toNat : Int) (y : Int) = (d.toNat : Int) := by
        rw [hsk, hdn]
        exact u8_xor_nat cc.toNat y (by omega) (by omega)
      have HCC := Lib.hid hcc
      have HDC := Lib.hid hdc
      have hkJ : kk ≤ fs.size := by omega
      have hkK : kk + 1 ≤ fs.size := by omega
      have HFZ := Lib.hid hfz2
      have hfz4 : fs.size ≤ 4080 := by omega
      have hkW : IntKind.i64.wrap ((kk : Int) + 1) = (kk : Int) + 1 := IntWalk.i64_in _ (by omega)
      have hkV : (0 : Int) ≤ (kk : Int) + 1 ∧ (kk : Int) + 1 ≤ (fs.size : Int) := by omega
      have hkU : ((kk : Int) + 1).toNat = kk + 1 := by omega
      clear hfz2 hkl hfz hsk hcl hf1 hx1 hcc hd hdn hdc
      go_wp2_with fail
      refine wp_region_held_drew (S := fun _ => True) (by kernel_rfl) trivial (fun hHeld => ?_)
      have hxt : Ext w1 w1.drew := Ext.drew _
      generalize w1.drew = v2 at hxt hHeld ⊢
      refine' wpAnyH_take (i := 0) (oi := _) (v := _) ?hi55 ?hs55 ?hf55 ?hr55 ?hQ55 (Or.inl ⟨?hw55, ?hy55⟩) (by assumption) ?hrest55
      case hi55 => simp only [List.getElem?_toArray]; rfl
      case hs55 => kernel_rfl
      case hf55 => kernel_rfl
      case hr55 => kernel_rfl
      case hQ55 => exact fun _ _ _ h => h
      case hw55 => rfl
      case hy55 => intro w hSw; (try dsimp only at hSw); go_simp; try with_reducible rfl
      try simp only [Act.put, List.setIfInBounds_toArray, List.set_cons_zero, List.set_cons_succ]
      refine' wpAnyH_take (i := 1) (oi := _) (v := _) ?hi56 ?hs56 ?hf56 ?hr56 ?hQ56 (Or.inl ⟨?hw56, ?hy56⟩) (by assumption) ?hrest56
      case hi56 => simp only [List.getElem?_toArray]; rfl
      case hs56 => kernel_rfl
      case hf56 => kernel_rfl
      case hr56 => kernel_rfl
      case hQ56 => exact fun _ _ _ h => h
      case hw56 => rfl
      case hy56 => intro w hSw; (try dsimp only at hSw); go_simp; try with_reducible rfl
      try simp only [Act.put, List.setIfInBounds_toArray, List.set_cons_zero, List.set_cons_succ]
      refine' wpAnyH_take (i := 2) (oi := _) (v := _) ?hi57 ?hs57 ?hf57 ?hr57 ?hQ57 (Or.inl ⟨?hw57, ?hy57⟩) (by assumption) ?hrest57
      case hi57 => simp only [List.getElem?_toArray]; rfl
      case hs57 => kernel_rfl
      case hf57 => kernel_rfl
      case hr57 => kernel_rfl
      case hQ57 => exact fun _ _ _ h => h
      case hw57 => rfl
      case hy57 => intro w hSw; (try dsimp only at hSw); go_simp; try with_reducible rfl
      try simp only [Act.put, List.setIfInBounds_toArray, List.set_cons_zero, List.set_cons_succ]
      refine' wpAnyH_take (i := 3) (oi := _) (v := _) ?hi58 ?hs58 ?hf58 ?hr58 ?hQ58 (Or.inl ⟨?hw58, ?hy58⟩) (by assumption) ?hrest58
      case hi58 => simp only [List.getElem?_toArray]; rfl
      case hs58 => kernel_rfl
      case hf58 => kernel_rfl
      case hr58 => kernel_rfl
      case hQ58 => exact fun _ _ _ h => h
      case hw58 => rfl
      case hy58 => intro w hSw; (try dsimp only at hSw); go_simp; try with_reducible rfl
      try simp only [Act.put, List.setIfInBounds_toArray, List.set_cons_zero, List.set_cons_succ]
      refine' wpAnyH_take (i := 4) (oi := _) (v := _) ?hi59 ?hs59 ?hf59 ?hr59 ?hQ59 (Or.inl ⟨?hw59, ?hy59⟩) (by assumption) ?hrest59
      case hi59 => simp only [List.getElem?_toArray]; rfl
      case hs59 => kernel_rfl
      case hf59 => kernel_rfl
      case hr59 => kernel_rfl
      case hQ59 => exact fun _ _ _ h => h
      case hw59 => rfl
      case hy59 => intro w hSw; (try dsimp only at hSw); go_simp; try with_reducible rfl
      try simp only [Act.put, List.setIfInBounds_toArray, List.set_cons_zero, List.set_cons_succ]
      refine' wpAnyH_take (i := 5) (oi := _) (v := _) ?hi60 ?hs60 ?hf60 ?hr60 ?hQ60 (Or.inl ⟨?hw60, ?hy60⟩) (by assumption) ?hrest60
      case hi60 => simp only [List.getElem?_toArray]; rfl
      case hs60 => kernel_rfl
      case hf60 => kernel_rfl
      case hr60 => kernel_rfl
      case hQ60 => exact fun _ _ _ h => h
      case hw60 => rfl
      case hy60 => intro w hSw; (try dsimp only at hSw); go_simp; try with_reducible rfl
      try simp only [Act.put, List.setIfInBounds_toArray, List.set_cons_zero, List.set_cons_succ]
      refine' wpAnyH_take (i := 6) (oi := _) (v := _) ?hi61 ?hs61 ?hf61 ?hr61 ?hQ61 (Or.inl ⟨?hw61, ?hy61⟩) (by assumption) ?hrest61
      case hi61 => simp only [List.getElem?_toArray]; rfl
      case hs61 => kernel_rfl
      case hf61 => kernel_rfl
      case hr61 => kernel_rfl
      case hQ61 => exact fun _ _ _ h => h
      case hw61 => rfl
      case hy61 => intro w hSw; (try dsimp only at hSw); go_simp; try with_reducible rfl
      try simp only [Act.put, List.setIfInBounds_toArray, List.set_cons_zero, List.set_cons_succ]
      refine' wpAnyH_take (i := 7) (oi := _) (v := _) ?hi62 ?hs62 ?hf62 ?hr62 ?hQ62 (Or.inl ⟨?hw62, ?hy62⟩) (by assumption) ?hrest62
      case hi62 => simp only [List.getElem?_toArray]; rfl
      case hs62 => kernel_rfl
      case hf62 => kernel_rfl
      case hr62 => kernel_rfl
      case hQ62 => exact fun _ _ _ h => h
      case hw62 => rfl
      case hy62 => intro w hSw; (try dsimp only at hSw); go_simp; try with_reducible rfl
      try simp only [Act.put, List.setIfInBounds_toArray, List.set_cons_zero, List.set_cons_succ]
      refine' wpAnyH_take (i := 8) (oi := _) (v := _) ?hi63 ?hs63 ?hf63 ?hr63 ?hQ63 (Or.inl ⟨?hw63, ?hy63⟩) (by assumption) ?hrest63
      case hi63 => simp only [List.getElem?_toArray]; rfl
      case hs63 => kernel_rfl
      case hf63 => kernel_rfl
      case hr63 => kernel_rfl
      case hQ63 => exact fun _ _ _ h => h
      case hw63 => rfl
      case hy63 => intro w hSw; (try dsimp only at hSw); go_simp; try with_reducible rfl
      try simp only [Act.put, List.setIfInBounds_toArray, List.set_cons_zero, List.set_cons_succ]
      refine' wpAnyH_take (i := 12) (oi := _) (v := _) ?hi64 ?hs64 ?hf64 ?hr64 ?hQ64 (Or.inl ⟨?hw64, ?hy64⟩) (by assumption) ?hrest64
      case hi64 => simp only [List.getElem?_toArray]; rfl
      case hs64 => kernel_rfl
      case hf64 => kernel_rfl
      case hr64 => kernel_rfl
      case hQ64 => exact fun _ _ _ h => h
      case hw64 => rfl
      case hy64 => intro w hSw; (try dsimp only at hSw); go_simp; try with_reducible rfl
      try simp only [Act.put, List.setIfInBounds_toArray, List.set_cons_zero, List.set_cons_succ]
      refine' wpAnyH_take (i := 13) (oi := _) (v := _) ?hi65 ?hs65 ?hf65 ?hr65 ?hQ65 (Or.inl ⟨?hw65, ?hy65⟩) (by assumption) ?hrest65
      case hi65 => simp only [List.getElem?_toArray]; rfl
      case hs65 => kernel_rfl
      case hf65 => kernel_rfl
      case hr65 => kernel_rfl
      case hQ65 => exact fun _ _ _ h => h
      case hw65 => rfl
      case hy65 => intro w hSw; (try dsimp only at hSw); go_simp; try with_reducible rfl
      try simp only [Act.put, List.setIfInBounds_toArray, List.set_cons_zero, List.set_cons_succ]
      refine' wpAnyH_take (i := 14) (oi := _) (v := _) ?hi66 ?hs66 ?hf66 ?hr66 ?hQ66 (Or.inl ⟨?hw66, ?hy66⟩) (by assumption) ?hrest66
      case hi66 => simp only [List.getElem?_toArray]; rfl
      case hs66 => kernel_rfl
      case hf66 => kernel_rfl
      case hr66 => kernel_rfl
      case hQ66 => exact fun _ _ _ h => h
      case hw66 => rfl
      case hy66 => intro w hSw; (try dsimp only at hSw); go_simp; try with_reducible rfl
      try simp only [Act.put, List.setIfInBounds_toArray, List.set_cons_zero, List.set_cons_succ]
      refine' wpAnyH_take (i := 15) (oi := _) (v := _) ?hi67 ?hs67 ?hf67 ?hr67 ?hQ67 (Or.inl ⟨?hw67, ?hy67⟩) (by assumption) ?hrest67
      case hi67 => simp only [List.getElem?_toArray]; rfl
      case hs67 => kernel_rfl
      case hf67 => kernel_rfl
      case hr67 => kernel_rfl
      case hQ67 => exact fun _ _ _ h => h
      case hw67 => rfl
      case hy67 => intro w hSw; (try dsimp only at hSw); go_simp; try with_reducible rfl
      try simp only [Act.put, List.setIfInBounds_toArray, List.set_cons_zero, List.set_cons_succ]
      refine wpAnyH_ready (rs := [9]) (by kernel_rfl) (by simp) ?_
      refine' AllReadyH.cons (o := _) ?ho68 (fun K hK => ?hstep68) AllReadyH.nil
      case ho68 => simp only [List.getElem?_toArray]; rfl
      go_simp
      have hr3 := Rd.new v2 #[.int .u8 (d.toNat : Int)] 5
      have hx3 := Ext.alloc v2 (.cells #[.int .u8 (d.toNat : Int)] 5)
      have hback := back (c := 1) (l := [d]) (n := 1) rfl hr3
      have hb3 := heap_alloc_new v2 (.cells #[.int .u8 (d.toNat : Int)] 5 (0, 0))
      generalize v2.heap.size = q3 at hback hr3 hb3 ⊢
      generalize v2.alloc (.cells #[.int .u8 (d.toNat : Int)] 5) = v3 at hback hx3 hr3 hb3 ⊢
      have HR3 := Lib.hid hr3
      have HB3 := Lib.hid hb3
      clear hr3 hb3
      refine hK.out _ _ (trivial) (fun hHeld => ?_)
      clear hK K
      try simp only [Act.put, List.setIfInBounds_toArray, List.set_cons_zero, List.set_cons_succ]
      refine wpAnyH_swap (S' := (fun wz => (convert 50 9 (.slice (some ⟨q3, 0, none⟩) 1 1)).run Try.prog wz = .ok (.string ⟨[d].toArray⟩) wz)) ((fun _ _ => trivial)) _ _ _ _ ?_
      have hep : (fs.extract 0 kk).size = kk := by rw [ByteArray.size_extract]; omega
      have her : (fs.extract (kk + 1) fs.size).size = fs.size - (kk + 1) := by rw [ByteArray.size_extract]; omega
      have hed : (⟨[d].toArray⟩ : ByteArray).size = 1 := rfl
      have HSET : Hid ((fs.extract 0 kk ++ ⟨[d].toArray⟩ ++ fs.extract (kk + 1) fs.size).toList = (frmsB recs).set kk d) := Lib.hid (set_text fs kk d hbk (by rw [← HFS.out, bs_list]))
      have HF3 := Lib.hid (HF1.out.later (hxt.trans hx3))
      generalize fs.extract 0 kk = fp at hep HSET ⊢
      generalize fs.extract (kk + 1) fs.size = fr at her HSET ⊢
      obtain ⟨fd, hfd⟩ : ∃ fd, (⟨[d].toArray⟩ : ByteArray) = fd := ⟨_, rfl⟩
      rw [hfd] at hback hed HSET ⊢
      have hb1 : ¬ (9223372036854775807 < fp.size + fd.size) := by omega
      have hb2 : ¬ (9223372036854775807 < fp.size + fd.size + fr.size) := by omega
      have hsz3 : (fp ++ fd ++ fr).size ≤ 16777216 := by rw [ByteArray.size_append, ByteArray.size_append]; omega
      have HEP := Lib.hid (And.intro hep (And.intro her hed))
      have HFD := Lib.hid hfd
      clear hep her hed hfd
      refine' wpAnyH_take (i := 10) (oi := _) (v := _) ?hi71 ?hs71 ?hf71 ?hr71 ?hQ71 (Or.inl ⟨?hw71, ?hy71⟩) (by assumption) ?hrest71
      case hi71 => simp only [List.getElem?_toArray]; rfl
      case hs71 => kernel_rfl
      case hf71 => kernel_rfl
      case hr71 => kernel_rfl
      case hQ71 => exact fun _ _ _ h => h
      case hw71 => rfl
      case hy71 => intro w hSw; (try dsimp only at hSw); go_simp; try with_reducible rfl
      try simp only [Act.put, List.setIfInBounds_toArray, List.set_cons_zero, List.set_cons_succ]
      refine' wpAnyH_take (i := 11) (oi := _) (v := _) ?hi72 ?hs72 ?hf72 ?hr72 ?hQ72 (Or.inl ⟨?hw72, ?hy72⟩) (by assumption) ?hrest72
      case hi72 => simp only [List.getElem?_toArray]; rfl
      case hs72 => kernel_rfl
      case hf72 => kernel_rfl
      case hr72 => kernel_rfl
      case hQ72 => exact fun _ _ _ h => h
      case hw72 => rfl
      case hy72 => intro w hSw; (try dsimp only at hSw); go_simp; try with_reducible rfl
      try simp only [Act.put, List.setIfInBounds_toArray, List.set_cons_zero, List.set_cons_succ]
      refine' wpAnyH_take (i := 16) (oi := _) (v := _) ?hi73 ?hs73 ?hf73 ?hr73 ?hQ73 (Or.inl ⟨?hw73, ?hy73⟩) (by assumption) ?hrest73
      case hi73 => simp only [List.getElem?_toArray]; rfl
      case hs73 => kernel_rfl
      case hf73 => kernel_rfl
      case hr73 => kernel_rfl
      case hQ73 => exact fun _ _ _ h => h
      case hw73 => rfl
      case hy73 => intro w hSw; (try dsimp only at hSw); go_simp; try with_reducible rfl
      try simp only [Act.put, List.setIfInBounds_toArray, List.set_cons_zero, List.set_cons_succ]
      refine wpAnyH_ready (rs := [17]) (by kernel_rfl) (by simp) ?_
      refine' AllReadyH.cons (o := _) ?ho74 (fun K hK => ?hstep74) AllReadyH.nil
      case ho74 => simp only [List.getElem?_toArray]; rfl
      go_simp
      generalize fp ++ fd ++ fr = fx at hsz3 HSET ⊢
      clear hb1 hb2 hback
      obtain ⟨L, f1, f2, f3, f4⟩ := HF3.out
      have hq3 : q3 ∉ L := f2.other HB3.out (by decide) (by decide)
      have hcall := append_did g L St.empty fx v3 f2 St.Ok.empty (by omega)
      rw [append_empty fx hsz3] at hcall
      refine hcall.mono ?_
      rintro e w4 ⟨rfl, hk4, L4, hf4, hs4⟩
      have hr4 := Kp.rd hk4 HR3.out (fun ad e => by injection e with e; rw [← e]; exact hq3)
      have HSW := Lib.hid (back (c := 1) (l := [d]) (n := 1) rfl hr4)
      rw [HFD.out] at HSW
      have HF4 : Hid (F1 wr w4 g ⟨fx, 0, none, none⟩) := Lib.hid ⟨L4, hk4.to_ext f1 f3, hf4, fun k hk => (hs4 k hk).elim (f3 k) (fun hh => Nat.le_trans f1.size hh), ok_of (append_empty fx hsz3) (St.Ok.empty.append _)⟩
      clear hcall hk4 hf4 hs4 hr4 hq3 f1 f2 f3 f4
      refine hK.out _ _ (HSW.out) (fun hHeld => ?_)
      clear hK K
      try simp only [Act.put, List.setIfInBounds_toArray, List.set_cons_zero, List.set_cons_succ]
      refine wpAnyH_done (by kernel_rfl) ?_ _
      clear hxt hx3 hHeld
      obtain ⟨nn, rt, hn1, hn2, hn3, hn4, hn5⟩ := open_turn HG.out kk cc d HCC.out HDC.out fx HSET.out
      go_wp2_with fail
      refine (HF4.out.opened).mono ?_
      rintro e w5 ⟨lg, rfl, hl5⟩
      have hs5 : (openL g ⟨fx, 0, none, none⟩).l = recs.take nn ++ rt := hn4
      generalize openL g ⟨fx, 0, none, none⟩ = S5 at hl5 hs5
      have HL5 := Lib.hid hl5
      have HS5 := Lib.hid hs5
      have HN3 := Lib.hid hn3
      have HN5 := Lib.hid hn5
      have hrt : (recs.take nn ++ rt).length ≤ 1000 := by
        have h1 := frms_len8 (readL fx.toList) (read_good fx.toList).1
        obtain ⟨_, tl, h2, _⟩ := read_good fx.toList
        have h3 := congrArg List.length h2
        rw [List.length_append, size_list] at h3
        rw [← hn4, List.length_map]
        have h4 : fx.size = fs.size := by
          have := congrArg List.length HSET.out
          rw [List.length_set, size_list] at this
          have := HFZ.out
          omega
        omega
      clear hl5 hs5 hn3 hn4 hn5
      have HRR := Lib.hid ((own_txt (own_base (HIO.out.ext HL5.out.ext))))
      have hkz : kk ≤ 4080 := by omega
      go_wp2_with fail
      go_loopw [15, 16] (fun nv sz wz => ∃ i a : Nat, i ≤ nn ∧ nv = .int .i64 (i : Int) ∧ sz = .int .i64 (a : Int) ∧ a = (frmsB (recs.take i)).length ∧ wz = w5) (fun nv _ _ => nn - (intOf nv).toNat)
      case atStart => exact ⟨0, 0, by omega, rfl, rfl, rfl, rfl⟩
      case round =>
        obtain ⟨i, a, hi, rfl, rfl, ha, rfl⟩ := hrel
        have hakk : a ≤ kk := by have := frms_mono recs hi; omega
        have HA := Lib.hid ha
        obtain ⟨s, hsk⟩ : ∃ s, recs[i]? = some s := ⟨_, List.getElem?_eq_getElem (by omega)⟩
        obtain ⟨ad, hAi, hcell⟩ := (txt_rd HRR.out).some_ (by rw [List.length_map]; omega)
        subst hAi
        have c0 := hcell i (.string s) (by rw [List.getElem?_map, hsk]; rfl)
        have hnz := (HRG.out s (List.mem_of_getElem? hsk)).2
        have hnx := frms_next hsk (HRG.out s (List.mem_of_getElem? hsk)).1
        rw [← HA.out] at hnx
        have hiI : (i : Int) < (recs.length : Int) := by omega
        have hiJ : (0 : Int) ≤ (i : Int) := by omega
        clear hcell ha
        by_cases hin : i < nn
        · have hak2 : (a : Int) + (s.size : Int) + 8 ≤ (kk : Int) := by have := frms_mono recs (show i + 1 ≤ nn from hin); omega
          have HNX := Lib.hid hnx
          clear hnx hsk
          go_wp2_with fail
          exact ⟨⟨i + 1, a + s.size + 8, by omega, by go_num, by go_num, HNX.out.symm, trivial⟩, by simp [intOf]; omega⟩
        · obtain rfl : i = nn := by omega
          have hak2 : ¬ (a : Int) + (s.size : Int) + 8 ≤ (kk : Int) := by have := HN3.out s hsk; rw [← HA.out] at this; omega
          clear hnx hsk
          go_wp2_with fail
          refine (HL5.out.records (by rw [HS5.out]; omega)).mono ?_
          rw [HS5.out]
          rintro e w6 ⟨u6, rfl, hu6, hx6⟩
          obtain ⟨A6, c6, rfl⟩ := own_len hu6
          have HU6 := Lib.hid (own_txt (own_base hu6))
          have HX6 := Lib.hid (HL5.out.ext.trans hx6)
          have HRR6 := Lib.hid (HRR.out.ext hx6)
          have hll : (recs.take i ++ rt).length = i + rt.length := by rw [List.length_append, List.length_take, Nat.min_eq_left (by omega)]
          obtain ⟨m, hm⟩ : ∃ m, m = i + rt.length := ⟨_, rfl⟩
          rw [hll, ← hm] at HU6 ⊢
          have him : i ≤ m := by omega
          have himI : ((i : Int) ≤ (m : Int)) := by omega
          have hir : i ≤ recs.length := by omega
          have HT1 := Lib.hid (txt_pre HU6.out him (recs.take i) (by rw [List.take_left' (by rw [List.length_take]; omega)]))
          have HT2 := Lib.hid (txt_pre HRR6.out hir (recs.take i) rfl)
          have hc6 : i ≤ c6 := Nat.le_trans him (txt_cap HU6.out).1
          have hci : i ≤ ci := Nat.le_trans hir (txt_cap HRR6.out).1
          have haW : IntKind.i64.wrap ((a : Int) + 4) = (a : Int) + 4 := IntWalk.i64_in _ (by omega)
          have HM := Lib.hid hm
          clear hu6 hx6 c0 hll hm
          by_cases hk4 : kk < a + 4
          · have hk4I : (kk : Int) < (a : Int) + 4 := by omega
            go_wp2_with fail
            refine wp_region_held_drew (S := fun _ => True) (by kernel_rfl) trivial (fun hHeld => ?_)
            have hxt : Ext w6 w6.drew := Ext.drew _
            generalize w6.drew = v7 at hxt hHeld ⊢
            refine' wpAnyH_take (i := 0) (oi := _) (v := _) ?hi145 ?hs145 ?hf145 ?hr145 ?hQ145 (Or.inl ⟨?hw145, ?hy145⟩) (by assumption) ?hrest145
            case hi145 => simp only [List.getElem?_toArray]; rfl
            case hs145 => kernel_rfl
            case hf145 => kernel_rfl
            case hr145 => kernel_rfl
            case hQ145 => exact fun _ _ _ h => h
            case hw145 => rfl
            case hy145 => intro w hSw; (try dsimp only at hSw); go_simp; try with_reducible rfl
            try simp only [Act.put, List.setIfInBounds_toArray, List.set_cons_zero, List.set_cons_succ]
            refine' wpAnyH_take (i := 1) (oi := _) (v := _) ?hi146 ?hs146 ?hf146 ?hr146 ?hQ146 (Or.inl ⟨?hw146, ?hy146⟩) (by assumption) ?hrest146
            case hi146 => simp only [List.getElem?_toArray]; rfl
            case hs146 => kernel_rfl
            case hf146 => kernel_rfl
            case hr146 => kernel_rfl
            case hQ146 => exact fun _ _ _ h => h
            case hw146 => rfl
            case hy146 => intro w hSw; (try dsimp only at hSw); go_simp; try with_reducible rfl
            try simp only [Act.put, List.setIfInBounds_toArray, List.set_cons_zero, List.set_cons_succ]
            refine' wpAnyH_take (i := 2) (oi := _) (v := _) ?hi147 ?hs147 ?hf147 ?hr147 ?hQ147 (Or.inl ⟨?hw147, ?hy147⟩) (by assumption) ?hrest147
            case hi147 => simp only [List.getElem?_toArray]; rfl
            case hs147 => kernel_rfl
            case hf147 => kernel_rfl
            case hr147 => kernel_rfl
            case hQ147 => exact fun _ _ _ h => h
            case hw147 => rfl
            case hy147 => intro w hSw; (try dsimp only at hSw); go_simp; try with_reducible rfl
            try simp only [Act.put, List.setIfInBounds_toArray, List.set_cons_zero, List.set_cons_succ]
            refine' wpAnyH_take (i := 3) (oi := _) (v := _) ?hi148 ?hs148 ?hf148 ?hr148 ?hQ148 (Or.inl ⟨?hw148, ?hy148⟩) (by assumption) ?hrest148
            case hi148 => simp only [List.getElem?_toArray]; rfl
            case hs148 => kernel_rfl
            case hf148 => kernel_rfl
            case hr148 => kernel_rfl
            case hQ148 => exact fun _ _ _ h => h
            case hw148 => rfl
            case hy148 => intro w hSw; (try dsimp only at hSw); go_simp; try with_reducible rfl
            try simp only [Act.put, List.setIfInBounds_toArray, List.set_cons_zero, List.set_cons_succ]
            refine' wpAnyH_take (i := 4) (oi := _) (v := _) ?hi149 ?hs149 ?hf149 ?hr149 ?hQ149 (Or.inl ⟨?hw149, ?hy149⟩) (by assumption) ?hrest149
            case hi149 => simp only [List.getElem?_toArray]; rfl
            case hs149 => kernel_rfl
            case hf149 => kernel_rfl
            case hr149 => kernel_rfl
            case hQ149 => exact fun _ _ _ h => h
            case hw149 => rfl
            case hy149 => intro w hSw; (try dsimp only at hSw); go_simp; try with_reducible rfl
            try simp only [Act.put, List.setIfInBounds_toArray, List.set_cons_zero, List.set_cons_succ]
            refine' wpAnyH_take (i := 5) (oi := _) (v := _) ?hi150 ?hs150 ?hf150 ?hr150 ?hQ150 (Or.inl ⟨?hw150, ?hy150⟩) (by assumption) ?hrest150
            case hi150 => simp only [List.getElem?_toArray]; rfl
            case hs150 => kernel_rfl
            case hf150 => kernel_rfl
            case hr150 => kernel_rfl
            case hQ150 => exact fun _ _ _ h => h
            case hw150 => rfl
            case hy150 => intro w hSw; (try dsimp only at hSw); go_simp; try with_reducible rfl
            try simp only [Act.put, List.setIfInBounds_toArray, List.set_cons_zero, List.set_cons_succ]
            refine' wpAnyH_take (i := 6) (oi := _) (v := _) ?hi151 ?hs151 ?hf151 ?hr151 ?hQ151 (Or.inl ⟨?hw151, ?hy151⟩) (by assumption) ?hrest151
            case hi151 => simp only [List.getElem?_toArray]; rfl
            case hs151 => kernel_rfl
            case hf151 => kernel_rfl
            case hr151 => kernel_rfl
            case hQ151 => exact fun _ _ _ h => h
            case hw151 => rfl
            case hy151 => intro w hSw; (try dsimp only at hSw); go_simp; try with_reducible rfl
            try simp only [Act.put, List.setIfInBounds_toArray, List.set_cons_zero, List.set_cons_succ]
            refine' wpAnyH_take (i := 7) (oi := _) (v := _) ?hi152 ?hs152 ?hf152 ?hr152 ?hQ152 (Or.inl ⟨?hw152, ?hy152⟩) (by assumption) ?hrest152
            case hi152 => simp only [List.getElem?_toArray]; rfl
            case hs152 => kernel_rfl
            case hf152 => kernel_rfl
            case hr152 => kernel_rfl
            case hQ152 => exact fun _ _ _ h => h
            case hw152 => rfl
            case hy152 => intro w hSw; (try dsimp only at hSw); go_simp; try with_reducible rfl
            try simp only [Act.put, List.setIfInBounds_toArray, List.set_cons_zero, List.set_cons_succ]
            refine' wpAnyH_take (i := 8) (oi := _) (v := _) ?hi153 ?hs153 ?hf153 ?hr153 ?hQ153 (Or.inl ⟨?hw153, ?hy153⟩) (by assumption) ?hrest153
            case hi153 => simp only [List.getElem?_toArray]; rfl
            case hs153 => kernel_rfl
            case hf153 => kernel_rfl
            case hr153 => kernel_rfl
            case hQ153 => exact fun _ _ _ h => h
            case hw153 => rfl
            case hy153 => intro w hSw; (try dsimp only at hSw); go_simp; try with_reducible rfl
            try simp only [Act.put, List.setIfInBounds_toArray, List.set_cons_zero, List.set_cons_succ]
            refine' wpAnyH_take (i := 9) (oi := _) (v := _) ?hi154 ?hs154 ?hf154 ?hr154 ?hQ154 (Or.inl ⟨?hw154, ?hy154⟩) (by assumption) ?hrest154
            case hi154 => simp only [List.getElem?_toArray]; rfl
            case hs154 => kernel_rfl
            case hf154 => kernel_rfl
            case hr154 => kernel_rfl
            case hQ154 => exact fun _ _ _ h => h
            case hw154 => rfl
            case hy154 => intro w hSw; (try dsimp only at hSw); go_simp; try with_reducible rfl
            try simp only [Act.put, List.setIfInBounds_toArray, List.set_cons_zero, List.set_cons_succ]
            refine' wpAnyH_take (i := 10) (oi := _) (v := _) ?hi155 ?hs155 ?hf155 ?hr155 ?hQ155 (Or.inl ⟨?hw155, ?hy155⟩) (by assumption) ?hrest155
            case hi155 => simp only [List.getElem?_toArray]; rfl
            case hs155 => kernel_rfl
            case hf155 => kernel_rfl
            case hr155 => kernel_rfl
            case hQ155 => exact fun _ _ _ h => h
            case hw155 => rfl
            case hy155 => intro w hSw; (try dsimp only at hSw); go_simp; try with_reducible rfl
            try simp only [Act.put, List.setIfInBounds_toArray, List.set_cons_zero, List.set_cons_succ]
            refine wpAnyH_ready (rs := [11]) (by kernel_rfl) (by simp) ?_
            refine' AllReadyH.cons (o := _) ?ho156 (fun K hK => ?hstep156) AllReadyH.nil
            case ho156 => simp only [List.getElem?_toArray]; rfl
            go_simp
            refine (same_yes _ _ (recs.take i) (recs.take i) v7 (HT1.out.ext hxt) (HT2.out.ext hxt) rfl).mono ?_
            rintro e w8 ⟨rfl, hx8⟩
            refine hK.out _ _ (trivial) (fun hHeld => ?_)
            clear hK K
            try simp only [Act.put, List.setIfInBounds_toArray, List.set_cons_zero, List.set_cons_succ]
            refine' wpAnyH_take (i := 12) (oi := _) (v := _) ?hi158 ?hs158 ?hf158 ?hr158 ?hQ158 (Or.inl ⟨?hw158, ?hy158⟩) (by assumption) ?hrest158
            case hi158 => simp only [List.getElem?_toArray]; rfl
            case hs158 => kernel_rfl
            case hf158 => kernel_rfl
            case hr158 => kernel_rfl
            case hQ158 => exact fun _ _ _ h => h
            case hw158 => rfl
            case hy158 => intro w hSw; (try dsimp only at hSw); go_simp; try with_reducible rfl
            try simp only [Act.put, List.setIfInBounds_toArray, List.set_cons_zero, List.set_cons_succ]
            refine' wpAnyH_take (i := 13) (oi := _) (v := _) ?hi159 ?hs159 ?hf159 ?hr159 ?hQ159 (Or.inl ⟨?hw159, ?hy159⟩) (by assumption) ?hrest159
            case hi159 => simp only [List.getElem?_toArray]; rfl
            case hs159 => kernel_rfl
            case hf159 => kernel_rfl
            case hr159 => kernel_rfl
            case hQ159 => exact fun _ _ _ h => h
            case hw159 => rfl
            case hy159 => intro w hSw; (try dsimp only at hSw); go_simp; try with_reducible rfl
            try simp only [Act.put, List.setIfInBounds_toArray, List.set_cons_zero, List.set_cons_succ]
            refine' wpAnyH_take (i := 14) (oi := _) (v := _) ?hi160 ?hs160 ?hf160 ?hr160 ?hQ160 (Or.inl ⟨?hw160, ?hy160⟩) (by assumption) ?hrest160
            case hi160 => simp only [List.getElem?_toArray]; rfl
            case hs160 => kernel_rfl
            case hf160 => kernel_rfl
            case hr160 => kernel_rfl
            case hQ160 => exact fun _ _ _ h => h
            case hw160 => rfl
            case hy160 => intro w hSw; (try dsimp only at hSw); go_simp; try with_reducible rfl
            try simp only [Act.put, List.setIfInBounds_toArray, List.set_cons_zero, List.set_cons_succ]
            refine' wpAnyH_take (i := 15) (oi := _) (v := _) ?hi161 ?hs161 ?hf161 ?hr161 ?hQ161 (Or.inl ⟨?hw161, ?hy161⟩) (by assumption) ?hrest161
            case hi161 => simp only [List.getElem?_toArray]; rfl
            case hs161 => kernel_rfl
            case hf161 => kernel_rfl
            case hr161 => kernel_rfl
            case hQ161 => exact fun _ _ _ h => h
            case hw161 => rfl
            case hy161 => intro w hSw; (try dsimp only at hSw); go_simp; try with_reducible rfl
            try simp only [Act.put, List.setIfInBounds_toArray, List.set_cons_zero, List.set_cons_succ]
            refine' wpAnyH_take (i := 16) (oi := _) (v := _) ?hi162 ?hs162 ?hf162 ?hr162 ?hQ162 (Or.inl ⟨?hw162, ?hy162⟩) (by assumption) ?hrest162
            case hi162 => simp only [List.getElem?_toArray]; rfl
            case hs162 => kernel_rfl
            case hf162 => kernel_rfl
            case hr162 => kernel_rfl
            case hQ162 => exact fun _ _ _ h => h
            case hw162 => rfl
            case hy162 => intro w hSw; (try dsimp only at hSw); go_simp; try with_reducible rfl
            try simp only [Act.put, List.setIfInBounds_toArray, List.set_cons_zero, List.set_cons_succ]
            refine' wpAnyH_take (i := 17) (oi := _) (v := _) ?hi163 ?hs163 ?hf163 ?hr163 ?hQ163 (Or.inl ⟨?hw163, ?hy163⟩) (by assumption) ?hrest163
            case hi163 => simp only [List.getElem?_toArray]; rfl
            case hs163 => kernel_rfl
            case hf163 => kernel_rfl
            case hr163 => kernel_rfl
            case hQ163 => exact fun _ _ _ h => h
            case hw163 => rfl
            case hy163 => intro w hSw; (try dsimp only at hSw); go_simp; try with_reducible rfl
            try simp only [Act.put, List.setIfInBounds_toArray, List.set_cons_zero, List.set_cons_succ]
            refine' wpAnyH_take (i := 18) (oi := _) (v := _) ?hi164 ?hs164 ?hf164 ?hr164 ?hQ164 (Or.inl ⟨?hw164, ?hy164⟩) (by assumption) ?hrest164
            case hi164 => simp only [List.getElem?_toArray]; rfl
            case hs164 => kernel_rfl
            case hf164 => kernel_rfl
            case hr164 => kernel_rfl
            case hQ164 => exact fun _ _ _ h => h
            case hw164 => rfl
            case hy164 => intro w hSw; (try dsimp only at hSw); go_simp; try with_reducible rfl
            try simp only [Act.put, List.setIfInBounds_toArray, List.set_cons_zero, List.set_cons_succ]
            refine' wpAnyH_take (i := 19) (oi := _) (v := undef) ?hi78 ?hs78 ?hf78 ?hr78 ?hQ78 (Or.inr ⟨?hw78, rfl⟩) (by assumption) ?hrest78
            case hi78 => simp only [List.getElem?_toArray]; rfl
            case hs78 => kernel_rfl
            case hf78 => kernel_rfl
            case hr78 => kernel_rfl
            case hQ78 => exact fun _ _ _ h => h
            case hw78 => rfl
            try simp only [Act.put, List.setIfInBounds_toArray, List.set_cons_zero, List.set_cons_succ]
            refine' wpAnyH_take (i := 20) (oi := _) (v := undef) ?hi79 ?hs79 ?hf79 ?hr79 ?hQ79 (Or.inr ⟨?hw79, rfl⟩) (by assumption) ?hrest79
            case hi79 => simp only [List.getElem?_toArray]; rfl
            case hs79 => kernel_rfl
            case hf79 => kernel_rfl
            case hr79 => kernel_rfl
            case hQ79 => exact fun _ _ _ h => h
            case hw79 => rfl
            try simp only [Act.put, List.setIfInBounds_toArray, List.set_cons_zero, List.set_cons_succ]
            refine' wpAnyH_take (i := 21) (oi := _) (v := undef) ?hi80 ?hs80 ?hf80 ?hr80 ?hQ80 (Or.inr ⟨?hw80, rfl⟩) (by assumption) ?hrest80
            case hi80 => simp only [List.getElem?_toArray]; rfl
            case hs80 => kernel_rfl
            case hf80 => kernel_rfl
            case hr80 => kernel_rfl
            case hQ80 => exact fun _ _ _ h => h
            case hw80 => rfl
            try simp only [Act.put, List.setIfInBounds_toArray, List.set_cons_zero, List.set_cons_succ]
            refine' wpAnyH_take (i := 22) (oi := _) (v := undef) ?hi81 ?hs81 ?hf81 ?hr81 ?hQ81 (Or.inr ⟨?hw81, rfl⟩) (by assumption) ?hrest81
            case hi81 => simp only [List.getElem?_toArray]; rfl
            case hs81 => kernel_rfl
            case hf81 => kernel_rfl
            case hr81 => kernel_rfl
            case hQ81 => exact fun _ _ _ h => h
            case hw81 => rfl
            try simp only [Act.put, List.setIfInBounds_toArray, List.set_cons_zero, List.set_cons_succ]
            refine' wpAnyH_take (i := 23) (oi := _) (v := _) ?hi165 ?hs165 ?hf165 ?hr165 ?hQ165 (Or.inl ⟨?hw165, ?hy165⟩) (by assumption) ?hrest165
            case hi165 => simp only [List.getElem?_toArray]; rfl
            case hs165 => kernel_rfl
            case hf165 => kernel_rfl
            case hr165 => kernel_rfl
            case hQ165 => exact fun _ _ _ h => h
            case hw165 => rfl
            case hy165 => intro w hSw; (try dsimp only at hSw); go_simp; try with_reducible rfl
            try simp only [Act.put, List.setIfInBounds_toArray, List.set_cons_zero, List.set_cons_succ]
            refine' wpAnyH_take (i := 24) (oi := _) (v := _) ?hi166 ?hs166 ?hf166 ?hr166 ?hQ166 (Or.inl ⟨?hw166, ?hy166⟩) (by assumption) ?hrest166
            case hi166 => simp only [List.getElem?_toArray]; rfl
            case hs166 => kernel_rfl
            case hf166 => kernel_rfl
            case hr166 => kernel_rfl
            case hQ166 => exact fun _ _ _ h => h
            case hw166 => rfl
            case hy166 => intro w hSw; (try dsimp only at hSw); go_simp; try with_reducible rfl
            try simp only [Act.put, List.setIfInBounds_toArray, List.set_cons_zero, List.set_cons_succ]
            refine' wpAnyH_take (i := 25) (oi := _) (v := _) ?hi167 ?hs167 ?hf167 ?hr167 ?hQ167 (Or.inl ⟨?hw167, ?hy167⟩) (by assumption) ?hrest167
            case hi167 => simp only [List.getElem?_toArray]; rfl
            case hs167 => kernel_rfl
            case hf167 => kernel_rfl
            case hr167 => kernel_rfl
            case hQ167 => exact fun _ _ _ h => h
            case hw167 => rfl
            case hy167 => intro w hSw; (try dsimp only at hSw); go_simp; try with_reducible rfl
            try simp only [Act.put, List.setIfInBounds_toArray, List.set_cons_zero, List.set_cons_succ]
            refine wpAnyH_ready (rs := [26]) (by kernel_rfl) (by simp) ?_
            refine' AllReadyH.cons (o := _) ?ho168 (fun K hK => ?hstep168) AllReadyH.nil
            case ho168 => simp only [List.getElem?_toArray]; rfl
            go_simp
            refine (known_any _).mono ?_
            rintro e w9 ⟨rfl, hx9⟩
            refine hK.out _ _ (trivial) (fun hHeld => ?_)
            clear hK K
            try simp only [Act.put, List.setIfInBounds_toArray, List.set_cons_zero, List.set_cons_succ]
            refine' wpAnyH_take (i := 27) (oi := _) (v := _) ?hi170 ?hs170 ?hf170 ?hr170 ?hQ170 (Or.inl ⟨?hw170, ?hy170⟩) (by assumption) ?hrest170
            case hi170 => simp only [List.getElem?_toArray]; rfl
            case hs170 => kernel_rfl
            case hf170 => kernel_rfl
            case hr170 => kernel_rfl
            case hQ170 => exact fun _ _ _ h => h
            case hw170 => rfl
            case hy170 => intro w hSw; (try dsimp only at hSw); go_simp; try with_reducible rfl
            try simp only [Act.put, List.setIfInBounds_toArray, List.set_cons_zero, List.set_cons_succ]
            refine' wpAnyH_take (i := 28) (oi := _) (v := _) ?hi171 ?hs171 ?hf171 ?hr171 ?hQ171 (Or.inl ⟨?hw171, ?hy171⟩) (by assumption) ?hrest171
            case hi171 => simp only [List.getElem?_toArray]; rfl
            case hs171 => kernel_rfl
            case hf171 => kernel_rfl
            case hr171 => kernel_rfl
            case hQ171 => exact fun _ _ _ h => h
            case hw171 => rfl
            case hy171 => intro w hSw; (try dsimp only at hSw); go_simp; try with_reducible rfl
            try simp only [Act.put, List.setIfInBounds_toArray, List.set_cons_zero, List.set_cons_succ]
            refine wpAnyH_done (by kernel_rfl) ?_ _
            go_wp2_with fail
            go_ret
            exact ⟨rfl, HX.out.trans (HX6.out.trans (hxt.trans (hx8.trans hx9)))⟩
          · have hk4I : decide ((kk : Int) < (a : Int) + 4) = false := decide_eq_false (by omega)
            obtain rfl : i = m := by
              have := HN5.out (by rw [← HA.out]; omega)
              have hm := HM.out
              rw [this] at hm
              simpa using hm.symm
            go_wp2_with fail
            refine wp_region_held_drew (S := fun _ => True) (by kernel_rfl) trivial (fun hHeld => ?_)
            have hxt : Ext w6 w6.drew := Ext.drew _
            generalize w6.drew = v7 at hxt hHeld ⊢
            refine' wpAnyH_take (i := 0) (oi := _) (v := _) ?hi173 ?hs173 ?hf173 ?hr173 ?hQ173 (Or.inl ⟨?hw173, ?hy173⟩) (by assumption) ?hrest173
            case hi173 => simp only [List.getElem?_toArray]; rfl
            case hs173 => kernel_rfl
            case hf173 => kernel_rfl
            case hr173 => kernel_rfl
            case hQ173 => exact fun _ _ _ h => h
            case hw173 => rfl
            case hy173 => intro w hSw; (try dsimp only at hSw); go_simp; try with_reducible rfl
            try simp only [Act.put, List.setIfInBounds_toArray, List.set_cons_zero, List.set_cons_succ]
            refine' wpAnyH_take (i := 1) (oi := _) (v := _) ?hi174 ?hs174 ?hf174 ?hr174 ?hQ174 (Or.inl ⟨?hw174, ?hy174⟩) (by assumption) ?hrest174
            case hi174 => simp only [List.getElem?_toArray]; rfl
            case hs174 => kernel_rfl
            case hf174 => kernel_rfl
            case hr174 => kernel_rfl
            case hQ174 => exact fun _ _ _ h => h
            case hw174 => rfl
            case hy174 => intro w hSw; (try dsimp only at hSw); go_simp; try with_reducible rfl
            try simp only [Act.put, List.setIfInBounds_toArray, List.set_cons_zero, List.set_cons_succ]
            refine' wpAnyH_take (i := 2) (oi := _) (v := _) ?hi175 ?hs175 ?hf175 ?hr175 ?hQ175 (Or.inl ⟨?hw175, ?hy175⟩) (by assumption) ?hrest175
            case hi175 => simp only [List.getElem?_toArray]; rfl
            case hs175 => kernel_rfl
            case hf175 => kernel_rfl
            case hr175 => kernel_rfl
            case hQ175 => exact fun _ _ _ h => h
            case hw175 => rfl
            case hy175 => intro w hSw; (try dsimp only at hSw); go_simp; try with_reducible rfl
            try simp only [Act.put, List.setIfInBounds_toArray, List.set_cons_zero, List.set_cons_succ]
            refine' wpAnyH_take (i := 3) (oi := _) (v := _) ?hi176 ?hs176 ?hf176 ?hr176 ?hQ176 (Or.inl ⟨?hw176, ?hy176⟩) (by assumption) ?hrest176
            case hi176 => simp only [List.getElem?_toArray]; rfl
            case hs176 => kernel_rfl
            case hf176 => kernel_rfl
            case hr176 => kernel_rfl
            case hQ176 => exact fun _ _ _ h => h
            case hw176 => rfl
            case hy176 => intro w hSw; (try dsimp only at hSw); go_simp; try with_reducible rfl
            try simp only [Act.put, List.setIfInBounds_toArray, List.set_cons_zero, List.set_cons_succ]
            refine' wpAnyH_take (i := 4) (oi := _) (v := _) ?hi177 ?hs177 ?hf177 ?hr177 ?hQ177 (Or.inl ⟨?hw177, ?hy177⟩) (by assumption) ?hrest177
            case hi177 => simp only [List.getElem?_toArray]; rfl
            case hs177 => kernel_rfl
            case hf177 => kernel_rfl
            case hr177 => kernel_rfl
            case hQ177 => exact fun _ _ _ h => h
            case hw177 => rfl
            case hy177 => intro w hSw; (try dsimp only at hSw); go_simp; try with_reducible rfl
            try simp only [Act.put, List.setIfInBounds_toArray, List.set_cons_zero, List.set_cons_succ]
            refine' wpAnyH_take (i := 5) (oi := _) (v := _) ?hi178 ?hs178 ?hf178 ?hr178 ?hQ178 (Or.inl ⟨?hw178, ?hy178⟩) (by assumption) ?hrest178
            case hi178 => simp only [List.getElem?_toArray]; rfl
            case hs178 => kernel_rfl
            case hf178 => kernel_rfl
            case hr178 => kernel_rfl
            case hQ178 => exact fun _ _ _ h => h
            case hw178 => rfl
            case hy178 => intro w hSw; (try dsimp only at hSw); go_simp; try with_reducible rfl
            try simp only [Act.put, List.setIfInBounds_toArray, List.set_cons_zero, List.set_cons_succ]
            refine' wpAnyH_take (i := 6) (oi := _) (v := _) ?hi179 ?hs179 ?hf179 ?hr179 ?hQ179 (Or.inl ⟨?hw179, ?hy179⟩) (by assumption) ?hrest179
            case hi179 => simp only [List.getElem?_toArray]; rfl
            case hs179 => kernel_rfl
            case hf179 => kernel_rfl
            case hr179 => kernel_rfl
            case hQ179 => exact fun _ _ _ h => h
            case hw179 => rfl
            case hy179 => intro w hSw; (try dsimp only at hSw); go_simp; try with_reducible rfl
            try simp only [Act.put, List.setIfInBounds_toArray, List.set_cons_zero, List.set_cons_succ]
            refine' wpAnyH_take (i := 7) (oi := _) (v := _) ?hi180 ?hs180 ?hf180 ?hr180 ?hQ180 (Or.inl ⟨?hw180, ?hy180⟩) (by assumption) ?hrest180
            case hi180 => simp only [List.getElem?_toArray]; rfl
            case hs180 => kernel_rfl
            case hf180 => kernel_rfl
            case hr180 => kernel_rfl
            case hQ180 => exact fun _ _ _ h => h
            case hw180 => rfl
            case hy180 => intro w hSw; (try dsimp only at hSw); go_simp; try with_reducible rfl
            try simp only [Act.put, List.setIfInBounds_toArray, List.set_cons_zero, List.set_cons_succ]
            refine' wpAnyH_take (i := 8) (oi := _) (v := _) ?hi181 ?hs181 ?hf181 ?hr181 ?hQ181 (Or.inl ⟨?hw181, ?hy181⟩) (by assumption) ?hrest181
            case hi181 => simp only [List.getElem?_toArray]; rfl
            case hs181 => kernel_rfl
            case hf181 => kernel_rfl
            case hr181 => kernel_rfl
            case hQ181 => exact fun _ _ _ h => h
            case hw181 => rfl
            case hy181 => intro w hSw; (try dsimp only at hSw); go_simp; try with_reducible rfl
            try simp only [Act.put, List.setIfInBounds_toArray, List.set_cons_zero, List.set_cons_succ]
            refine' wpAnyH_take (i := 9) (oi := _) (v := _) ?hi182 ?hs182 ?hf182 ?hr182 ?hQ182 (Or.inl ⟨?hw182, ?hy182⟩) (by assumption) ?hrest182
            case hi182 => simp only [List.getElem?_toArray]; rfl
            case hs182 => kernel_rfl
            case hf182 => kernel_rfl
            case hr182 => kernel_rfl
            case hQ182 => exact fun _ _ _ h => h
            case hw182 => rfl
            case hy182 => intro w hSw; (try dsimp only at hSw); go_simp; try with_reducible rfl
            try simp only [Act.put, List.setIfInBounds_toArray, List.set_cons_zero, List.set_cons_succ]
            refine' wpAnyH_take (i := 10) (oi := _) (v := _) ?hi183 ?hs183 ?hf183 ?hr183 ?hQ183 (Or.inl ⟨?hw183, ?hy183⟩) (by assumption) ?hrest183
            case hi183 => simp only [List.getElem?_toArray]; rfl
            case hs183 => kernel_rfl
            case hf183 => kernel_rfl
            case hr183 => kernel_rfl
            case hQ183 => exact fun _ _ _ h => h
            case hw183 => rfl
            case hy183 => intro w hSw; (try dsimp only at hSw); go_simp; try with_reducible rfl
            try simp only [Act.put, List.setIfInBounds_toArray, List.set_cons_zero, List.set_cons_succ]
            refine wpAnyH_ready (rs := [11]) (by kernel_rfl) (by simp) ?_
            refine' AllReadyH.cons (o := _) ?ho184 (fun K hK => ?hstep184) AllReadyH.nil
            case ho184 => simp only [List.getElem?_toArray]; rfl
            go_simp
            refine (same_yes _ _ (recs.take i) (recs.take i) v7 (HT1.out.ext hxt) (HT2.out.ext hxt) rfl).mono ?_
            rintro e w8 ⟨rfl, hx8⟩
            refine hK.out _ _ (trivial) (fun hHeld => ?_)
            clear hK K
            try simp only [Act.put, List.setIfInBounds_toArray, List.set_cons_zero, List.set_cons_succ]
            refine' wpAnyH_take (i := 12) (oi := _) (v := _) ?hi186 ?hs186 ?hf186 ?hr186 ?hQ186 (Or.inl ⟨?hw186, ?hy186⟩) (by assumption) ?hrest186
            case hi186 => simp only [List.getElem?_toArray]; rfl
            case hs186 => kernel_rfl
            case hf186 => kernel_rfl
            case hr186 => kernel_rfl
            case hQ186 => exact fun _ _ _ h => h
            case hw186 => rfl
            case hy186 => intro w hSw; (try dsimp only at hSw); go_simp; try with_reducible rfl
            try simp only [Act.put, List.setIfInBounds_toArray, List.set_cons_zero, List.set_cons_succ]
            refine' wpAnyH_take (i := 13) (oi := _) (v := _) ?hi187 ?hs187 ?hf187 ?hr187 ?hQ187 (Or.inl ⟨?hw187, ?hy187⟩) (by assumption) ?hrest187
            case hi187 => simp only [List.getElem?_toArray]; rfl
            case hs187 => kernel_rfl
            case hf187 => kernel_rfl
            case hr187 => kernel_rfl
            case hQ187 => exact fun _ _ _ h => h
            case hw187 => rfl
            case hy187 => intro w hSw; (try dsimp only at hSw); go_simp; try with_reducible rfl
            try simp only [Act.put, List.setIfInBounds_toArray, List.set_cons_zero, List.set_cons_succ]
            refine' wpAnyH_take (i := 14) (oi := _) (v := _) ?hi188 ?hs188 ?hf188 ?hr188 ?hQ188 (Or.inl ⟨?hw188, ?hy188⟩) (by assumption) ?hrest188
            case hi188 => simp only [List.getElem?_toArray]; rfl
            case hs188 => kernel_rfl
            case hf188 => kernel_rfl
            case hr188 => kernel_rfl
            case hQ188 => exact fun _ _ _ h => h
            case hw188 => rfl
            case hy188 => intro w hSw; (try dsimp only at hSw); go_simp; try with_reducible rfl
            try simp only [Act.put, List.setIfInBounds_toArray, List.set_cons_zero, List.set_cons_succ]
            refine' wpAnyH_take (i := 15) (oi := _) (v := _) ?hi189 ?hs189 ?hf189 ?hr189 ?hQ189 (Or.inl ⟨?hw189, ?hy189⟩) (by assumption) ?hrest189
            case hi189 => simp only [List.getElem?_toArray]; rfl
            case hs189 => kernel_rfl
            case hf189 => kernel_rfl
            case hr189 => kernel_rfl
            case hQ189 => exact fun _ _ _ h => h
            case hw189 => rfl
            case hy189 => intro w hSw; (try dsimp only at hSw); go_simp; try with_reducible rfl
            try simp only [Act.put, List.setIfInBounds_toArray, List.set_cons_zero, List.set_cons_succ]
            refine' wpAnyH_take (i := 16) (oi := _) (v := _) ?hi190 ?hs190 ?hf190 ?hr190 ?hQ190 (Or.inl ⟨?hw190, ?hy190⟩) (by assumption) ?hrest190
            case hi190 => simp only [List.getElem?_toArray]; rfl
            case hs190 => kernel_rfl
            case hf190 => kernel_rfl
            case hr190 => kernel_rfl
            case hQ190 => exact fun _ _ _ h => h
            case hw190 => rfl
            case hy190 => intro w hSw; (try dsimp only at hSw); go_simp; try with_reducible rfl
            try simp only [Act.put, List.setIfInBounds_toArray, List.set_cons_zero, List.set_cons_succ]
            refine' wpAnyH_take (i := 17) (oi := _) (v := _) ?hi191 ?hs191 ?hf191 ?hr191 ?hQ191 (Or.inl ⟨?hw191, ?hy191⟩) (by assumption) ?hrest191
            case hi191 => simp only [List.getElem?_toArray]; rfl
            case hs191 => kernel_rfl
            case hf191 => kernel_rfl
            case hr191 => kernel_rfl
            case hQ191 => exact fun _ _ _ h => h
            case hw191 => rfl
            case hy191 => intro w hSw; (try dsimp only at hSw); go_simp; try with_reducible rfl
            try simp only [Act.put, List.setIfInBounds_toArray, List.set_cons_zero, List.set_cons_succ]
            refine' wpAnyH_take (i := 18) (oi := _) (v := _) ?hi192 ?hs192 ?hf192 ?hr192 ?hQ192 (Or.inl ⟨?hw192, ?hy192⟩) (by assumption) ?hrest192
            case hi192 => simp only [List.getElem?_toArray]; rfl
            case hs192 => kernel_rfl
            case hf192 => kernel_rfl
            case hr192 => kernel_rfl
            case hQ192 => exact fun _ _ _ h => h
            case hw192 => rfl
            case hy192 => intro w hSw; (try dsimp only at hSw); go_simp; try with_reducible rfl
            try simp only [Act.put, List.setIfInBounds_toArray, List.set_cons_zero, List.set_cons_succ]
            refine' wpAnyH_take (i := 19) (oi := _) (v := _) ?hi84 ?hs84 ?hf84 ?hr84 ?hQ84 (Or.inl ⟨?hw84, ?hy84⟩) (by assumption) ?hrest84
            case hi84 => simp only [List.getElem?_toArray]; rfl
            case hs84 => kernel_rfl
            case hf84 => kernel_rfl
            case hr84 => kernel_rfl
            case hQ84 => exact fun _ _ _ h => h
            case hw84 => rfl
            case hy84 => intro w hSw; (try dsimp only at hSw); go_simp; try with_reducible rfl
            try simp only [Act.put, List.setIfInBounds_toArray, List.set_cons_zero, List.set_cons_succ]
            refine' wpAnyH_take (i := 20) (oi := _) (v := _) ?hi85 ?hs85 ?hf85 ?hr85 ?hQ85 (Or.inl ⟨?hw85, ?hy85⟩) (by assumption) ?hrest85
            case hi85 => simp only [List.getElem?_toArray]; rfl
            case hs85 => kernel_rfl
            case hf85 => kernel_rfl
            case hr85 => kernel_rfl
            case hQ85 => exact fun _ _ _ h => h
            case hw85 => rfl
            case hy85 => intro w hSw; (try dsimp only at hSw); go_simp; try with_reducible rfl
            try simp only [Act.put, List.setIfInBounds_toArray, List.set_cons_zero, List.set_cons_succ]
            refine' wpAnyH_take (i := 21) (oi := _) (v := _) ?hi86 ?hs86 ?hf86 ?hr86 ?hQ86 (Or.inl ⟨?hw86, ?hy86⟩) (by assumption) ?hrest86
            case hi86 => simp only [List.getElem?_toArray]; rfl
            case hs86 => kernel_rfl
            case hf86 => kernel_rfl
            case hr86 => kernel_rfl
            case hQ86 => exact fun _ _ _ h => h
            case hw86 => rfl
            case hy86 => intro w hSw; (try dsimp only at hSw); go_simp; try with_reducible rfl
            try simp only [Act.put, List.setIfInBounds_toArray, List.set_cons_zero, List.set_cons_succ]
            refine' wpAnyH_take (i := 22) (oi := _) (v := _) ?hi87 ?hs87 ?hf87 ?hr87 ?hQ87 (Or.inl ⟨?hw87, ?hy87⟩) (by assumption) ?hrest87
            case hi87 => simp only [List.getElem?_toArray]; rfl
            case hs87 => kernel_rfl
            case hf87 => kernel_rfl
            case hr87 => kernel_rfl
            case hQ87 => exact fun _ _ _ h => h
            case hw87 => rfl
            case hy87 => intro w hSw; (try dsimp only at hSw); go_simp; try with_reducible rfl
            try simp only [Act.put, List.setIfInBounds_toArray, List.set_cons_zero, List.set_cons_succ]
            refine' wpAnyH_take (i := 23) (oi := _) (v := _) ?hi193 ?hs193 ?hf193 ?hr193 ?hQ193 (Or.inl ⟨?hw193, ?hy193⟩) (by assumption) ?hrest193
            case hi193 => simp only [List.getElem?_toArray]; rfl
            case hs193 => kernel_rfl
            case hf193 => kernel_rfl
            case hr193 => kernel_rfl
            case hQ193 => exact fun _ _ _ h => h
            case hw193 => rfl
            case hy193 => intro w hSw; (try dsimp only at hSw); go_simp; try with_reducible rfl
            try simp only [Act.put, List.setIfInBounds_toArray, List.set_cons_zero, List.set_cons_succ]
            refine' wpAnyH_take (i := 24) (oi := _) (v := _) ?hi194 ?hs194 ?hf194 ?hr194 ?hQ194 (Or.inl ⟨?hw194, ?hy194⟩) (by assumption) ?hrest194
            case hi194 => simp only [List.getElem?_toArray]; rfl
            case hs194 => kernel_rfl
            case hf194 => kernel_rfl
            case hr194 => kernel_rfl
            case hQ194 => exact fun _ _ _ h => h
            case hw194 => rfl
            case hy194 => intro w hSw; (try dsimp only at hSw); go_simp; try with_reducible rfl
            try simp only [Act.put, List.setIfInBounds_toArray, List.set_cons_zero, List.set_cons_succ]
            refine' wpAnyH_take (i := 25) (oi := _) (v := _) ?hi195 ?hs195 ?hf195 ?hr195 ?hQ195 (Or.inl ⟨?hw195, ?hy195⟩) (by assumption) ?hrest195
            case hi195 => simp only [List.getElem?_toArray]; rfl
            case hs195 => kernel_rfl
            case hf195 => kernel_rfl
            case hr195 => kernel_rfl
            case hQ195 => exact fun _ _ _ h => h
            case hw195 => rfl
            case hy195 => intro w hSw; (try dsimp only at hSw); go_simp; try with_reducible rfl
            try simp only [Act.put, List.setIfInBounds_toArray, List.set_cons_zero, List.set_cons_succ]
            refine wpAnyH_ready (rs := [26]) (by kernel_rfl) (by simp) ?_
            refine' AllReadyH.cons (o := _) ?ho196 (fun K hK => ?hstep196) AllReadyH.nil
            case ho196 => simp only [List.getElem?_toArray]; rfl
            go_simp
            refine (known_any _).mono ?_
            rintro e w9 ⟨rfl, hx9⟩
            refine hK.out _ _ (trivial) (fun hHeld => ?_)
            clear hK K
            try simp only [Act.put, List.setIfInBounds_toArray, List.set_cons_zero, List.set_cons_succ]
            refine' wpAnyH_take (i := 27) (oi := _) (v := _) ?hi198 ?hs198 ?hf198 ?hr198 ?hQ198 (Or.inl ⟨?hw198, ?hy198⟩) (by assumption) ?hrest198
            case hi198 => simp only [List.getElem?_toArray]; rfl
            case hs198 => kernel_rfl
            case hf198 => kernel_rfl
            case hr198 => kernel_rfl
            case hQ198 => exact fun _ _ _ h => h
            case hw198 => rfl
            case hy198 => intro w hSw; (try dsimp only at hSw); go_simp; try with_reducible rfl
            try simp only [Act.put, List.setIfInBounds_toArray, List.set_cons_zero, List.set_cons_succ]
            refine' wpAnyH_take (i := 28) (oi := _) (v := _) ?hi199 ?hs199 ?hf199 ?hr199 ?hQ199 (Or.inl ⟨?hw199, ?hy199⟩) (by assumption) ?hrest199
            case hi199 => simp only [List.getElem?_toArray]; rfl
            case hs199 => kernel_rfl
            case hf199 => kernel_rfl
            case hr199 => kernel_rfl
            case hQ199 => exact fun _ _ _ h => h
            case hw199 => rfl
            case hy199 => intro w hSw; (try dsimp only at hSw); go_simp; try with_reducible rfl
            try simp only [Act.put, List.setIfInBounds_toArray, List.set_cons_zero, List.set_cons_succ]
            refine wpAnyH_done (by kernel_rfl) ?_ _
            go_wp2_with fail
            go_ret
            exact ⟨rfl, HX.out.trans (HX6.out.trans (hxt.trans (hx8.trans hx9)))⟩
end Go.Proofs.Ytdndeggognfcaaa
