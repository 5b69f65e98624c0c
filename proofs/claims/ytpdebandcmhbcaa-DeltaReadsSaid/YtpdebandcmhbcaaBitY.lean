/- The walk of the reference's Bytes. -/
import Derived.Test.YtpdebandcmhbcaaBitT
namespace Go.Proofs.Ytpdebandcmhbcaa
open Go.RowKit Bit
set_option linter.unusedVariables false

/-- An empty slice that is there. -/
theorem OwnL.empty (B : Nat) (w : World) (hB : B ≤ w.heap.size) : OwnL B (w.alloc (.cells #[] 4)) (.slice (some ⟨w.heap.size, 0, none⟩) 0 0) [] :=
  ⟨by simp, .inr ⟨w.heap.size, 0, #[], rfl, hB, heap_alloc_last w _, by simp, by simp [maxLen], by simp, by simp⟩⟩

def pad (c : List Bool) : List Bool := c ++ List.replicate (8 - c.length) false
theorem pad_getD (c : List Bool) (i : Nat) : (pad c).getD i false = c.getD i false := by
  unfold pad
  rw [List.getD_eq_getElem?_getD, List.getD_eq_getElem?_getD]
  by_cases h : i < c.length
  · rw [List.getElem?_append_left h]
  · rw [List.getElem?_append_right (by omega), List.getElem?_eq_none (l := c) (by omega), List.getElem?_replicate]
    split <;> rfl
theorem bytes_step {l : List Bool} {bs : List UInt8} {j : Nat} (h : Packed (l.take (8 * j)) bs) (hj : 8 * j < l.length) (y : UInt8) (hy : y.toNat = num (pad ((l.drop (8 * j)).take 8))) :
    Packed (l.take (8 * (j + 1))) (bs ++ [y]) := by
  obtain ⟨h1, h2⟩ := h
  have hbl : bs.length = j := by rw [h1, List.length_take]; omega
  have hpl : (pad ((l.drop (8 * j)).take 8)).length = 8 := by unfold pad; simp; omega
  refine ⟨by rw [List.length_append, List.length_take, hbl]; simp; omega, fun q i hq hi => ?_⟩
  rw [List.length_append, hbl] at hq
  simp only [List.length_singleton] at hq
  by_cases hqj : q = j
  · subst hqj
    have e : (bs ++ [y]).getD q 0 = y := by rw [List.getD_eq_getElem?_getD, List.getElem?_append_right (by omega), hbl]; simp
    rw [e, hy, show 7 - i = 8 - 1 - i by omega, num_bit 8 _ hpl i hi, pad_getD]
    rw [List.getD_eq_getElem?_getD, List.getD_eq_getElem?_getD, List.getElem?_take_of_lt hi, List.getElem?_drop, List.getElem?_take_of_lt (by omega)]
  · have := h2 q i (by omega) hi
    rw [List.getD_eq_getElem?_getD] at this
    rw [List.getD_eq_getElem?_getD, List.getElem?_append_left (by omega), this, List.getD_eq_getElem?_getD, List.getD_eq_getElem?_getD, List.getElem?_take_of_lt (by omega), List.getElem?_take_of_lt (by omega)]

theorem toList_app (s : ByteArray) (y : UInt8) : (s ++ ⟨#[y]⟩).toList = s.toList ++ [y] := by
  rw [Lib.toList_data, Lib.toList_data, ByteArray.data_append]
  simp

def lenV : Value → Nat
  | .slice _ n _ => n
  | _ => 0

set_option maxHeartbeats 2000000 in
theorem rBytes_any (v : Value) (l : List Bool) (w : World) (h : Boo w v l) (hl : l.length ≤ 34359738368) :
    Calls Try.prog 16 #[v] w fun e w' => ∃ s : ByteArray, e = .returned (.string s) ∧ Packed l s.toList ∧ Ext w w' := by
  obtain ⟨i0, hi0, hz0, hz1, hz2⟩ := info_parts Try.boolInfo
  obtain ⟨A, n, c, rfl, hn, hnc, hcm, hr⟩ := h
  have HN := Lib.hid hn
  have HR := Lib.hid hr
  have hn34 : n ≤ 34359738368 := by omega
  clear hn hr hl
  go_enter Try.func16, Try.ntmps16
  go_wp2
  go_loopw [3, 4] (fun u i wr => ∃ (j : Nat) (s : ByteArray), 8 * j < n + 8 ∧ i = .int .i64 ((8 * j : Nat) : Int) ∧ u = .string s ∧ Packed (l.take (8 * j)) s.toList ∧ Ext w wr) (fun _ i _ => n + 8 - (intOf i).toNat)
  case atStart => exact ⟨0, ⟨#[]⟩, by omega, rfl, rfl, by rw [show (⟨#[]⟩ : ByteArray).toList = [] from toList_mk []]; exact Packed.nil, Ext.refl _⟩
  case round =>
    obtain ⟨j, s, hj, rfl, rfl, hp, hext⟩ := hrel
    have HP := Lib.hid hp
    have HX := Lib.hid hext
    clear hp hext
    generalize hi : 8 * j = i at *
    have HI := Lib.hid hi
    clear hi
    by_cases h1 : i < n
    · obtain ⟨k, hk⟩ : ∃ k, k = min n (i + 8) := ⟨_, rfl⟩
      have hk1 : i ≤ k := by omega
      have hk2 : k ≤ n := by omega
      have hk8 : k - i ≤ 8 := by omega
      have hch : (l.drop i).take (k - i) = (l.drop i).take 8 := by
        by_cases h8 : n ≤ i + 8
        · rw [List.take_of_length_le (by rw [List.length_drop, HN.out]; omega), List.take_of_length_le (by rw [List.length_drop, HN.out]; omega)]
        · rw [show k - i = 8 by omega]
      have hcl : ((l.drop i).take 8).length = k - i := by rw [List.length_take, List.length_drop, HN.out]; omega
      have HCH := Lib.hid hch
      have HCL := Lib.hid hcl
      clear hch hcl
      by_cases hmin : n ≤ i + 8
      · have hminI : (n : Int) ≤ (i : Int) + 8 := by omega
        obtain ⟨A2, hA2, hsl⟩ := cut_mid (P := Try.prog) 31 4 i0 1 Try.underlying31 hi0 hz1 (HR.out.ext HX.out) (by rw [List.length_map, HN.out, Nat.mul_one]) hnc i k (i : Int) ((n : Int)) rfl (by omega) hk1 hk2
        have HK := Lib.hid hk
        clear hk
        rw [Nat.mul_one, Nat.mul_one, ← List.map_drop, ← List.map_take, HCH.out] at hA2
        have HA2 := Lib.hid hA2
        clear hA2
        go_wp2_with (first
          | (at_builtin
             refine app_bools _ rfl (.tmp 12) (.tmp 20) rfl w.heap.size _ [] rfl (by exact OwnL.empty _ wr HX.out.size) (Nat.le_trans HX.out.size (Ext.alloc wr _).size) A2 _ _ ((l.drop i).take 8) rfl HCL.out (HA2.out.ext (Ext.alloc wr _)) (by rw [HCL.out]; simp only [List.length_nil]; omega) ?_
             intro v2 w2 hown2 hchg2
             have hext2 := ext_own (HX.out.trans (Ext.alloc wr _)) hchg2
             have HO2 := Lib.hid hown2
             have HX2 := Lib.hid hext2
             clear hchg2 hown2 hext2))
        have hcl2 := HCL.out
        go_loopw [5] (fun b wq => ∃ p : Nat, p ≤ 8 - (k - i) ∧ OwnL w.heap.size wq b ((l.drop i).take 8 ++ List.replicate p false) ∧ Ext w wq) (fun b _ => 8 - lenV b)
        case atStart => exact ⟨0, by omega, by simpa using HO2.out, HX2.out⟩
        case round =>
          obtain ⟨p, hp, hown, hext⟩ := hrel
          obtain ⟨A3, c3, rfl, h5, h6, h7⟩ := own_slice hown
          have hz : ((l.drop i).take 8 ++ List.replicate p false).length = (k - i) + p := by rw [List.length_append, List.length_replicate, HCL.out]
          have HO3 := Lib.hid hown
          have HX3 := Lib.hid hext
          have HZ := Lib.hid hz
          clear hown hext h7 hcl2
          by_cases h8 : (k - i) + p < 8
          · have HNX : Hid ((l.drop i).take 8 ++ List.replicate p false ++ [false] = (l.drop i).take 8 ++ List.replicate (p + 1) false) := Lib.hid (by rw [List.append_assoc, ← List.replicate_succ'])
            generalize hq : ((l.drop i).take 8 ++ List.replicate p false) = ch at *
            clear hq
            rw [hz]
            rw [hz] at h5
            generalize hzz : k - i + p = z at *
            clear hz
            have HZZ := Lib.hid hzz
            clear hzz
            have HO3' : Hid (OwnL w.heap.size wr (.slice A3 z c3) ch) := Lib.hid (by have := HO3.out; rw [HZ.out] at this; exact this)
            go_wp2_with (first
              | (at_builtin
                 refine app_bools _ rfl (.tmp 25) (.tmp 26) rfl w.heap.size (.slice A3 z c3) ch rfl (by exact HO3'.out.ext (Ext.alloc _ _)) (Nat.le_trans HX3.out.size (Ext.alloc _ _).size) (some ⟨wr.heap.size, 0, none⟩) 1 1 [false] rfl rfl (by exact Rd.new wr #[_] 4) (by rw [HZ.out]; simp only [List.length_singleton]; omega) ?_
                 intro v4 w4 hown4 hchg4
                 have hext4 := ext_own (HX3.out.trans (Ext.alloc _ _)) hchg4
                 rw [HNX.out] at hown4
                 have hl4 : ((l.drop i).take 8 ++ List.replicate (p + 1) false).length = z + 1 := by rw [List.length_append, List.length_replicate, HCL.out]; have := HZZ.out; omega
                 obtain ⟨A4, c4, rfl, _, _, _⟩ := own_slice hown4
                 rw [hl4] at hown4 ⊢
                 clear hl4
                 have HO4 := Lib.hid hown4
                 have HX4 := Lib.hid hext4
                 clear hchg4 hown4 hext4))
            go_roundw
            case rel => exact ⟨p + 1, by have := HZZ.out; omega, HO4.out, HX4.out⟩
            case measure => simp only [lenV]; omega
          · have hp8 : p = 8 - (k - i) := by omega
            have hpad : (l.drop i).take 8 ++ List.replicate p false = pad ((l.drop i).take 8) := by rw [pad, HCL.out, hp8]
            have hz8 : k - i + p = 8 := by omega
            rw [hz8] at hz
            have HO5 := Lib.hid (HO3.out.boo)
            rw [hz] at HO5 h5 ⊢
            rw [hpad] at HO5 hz
            have hnum := num_lt (pad ((l.drop i).take 8))
            rw [hz] at hnum
            have hx256 : num (pad ((l.drop i).take 8)) < 256 := hnum
            have hst := fun y hy => bytes_step (j := j) (by rw [HI.out]; exact HP.out) (by rw [HI.out, HN.out]; exact h1) y hy
            rw [HI.out] at hst
            have HST := Lib.hid hst
            have HPL := Lib.hid hz
            clear hst hnum hz hpad HZ HO3 HA2 hsl
            generalize pad ((l.drop i).take 8) = pd at *
            go_wp2_with fail
            refine (rNumber_any _ pd wr HO5.out (by rw [HPL.out]; decide)).mono ?_
            rintro e _ ⟨rfl, rfl⟩
            generalize num pd = x at *
            obtain ⟨y, hy⟩ : ∃ y : UInt8, y.toNat = x := ⟨UInt8.ofNat x, UInt8.toNat_ofNat_of_lt' hx256⟩
            have HY := Lib.hid hy
            clear hy
            have hback := back (w := wr.alloc (.cells #[.int .u8 (x : Int)] 5)) (A := some ⟨wr.heap.size, 0, none⟩) (n := 1) (c := 1) (l := [y]) rfl (by rw [List.map_singleton, byteV, HY.out]; exact Rd.new wr #[_] 5)
            have hss : s.size + 1 ≤ 9223372036854775807 := by
              have := HP.out.1
              rw [size_list, List.length_take] at this
              omega
            go_wp2_with fail
            refine ⟨⟨j + 1, s ++ ⟨#[y]⟩, by have := HI.out; omega, by have := HI.out; congr 1; omega, rfl, by rw [toList_app]; exact HST.out y HY.out, HX3.out.trans (Ext.alloc _ _)⟩, ?_⟩
            simp [intOf]; omega
      · have hminI : (i : Int) + 8 < (n : Int) := by omega
        have hminI2 : ¬ (n : Int) ≤ (i : Int) + 8 := by omega
        obtain ⟨A2, hA2, hsl⟩ := cut_mid (P := Try.prog) 31 4 i0 1 Try.underlying31 hi0 hz1 (HR.out.ext HX.out) (by rw [List.length_map, HN.out, Nat.mul_one]) hnc i k (i : Int) ((i : Int) + 8) rfl (by omega) hk1 hk2
        have HK := Lib.hid hk
        clear hk
        rw [Nat.mul_one, Nat.mul_one, ← List.map_drop, ← List.map_take, HCH.out] at hA2
        have HA2 := Lib.hid hA2
        clear hA2
        go_wp2_with (first
          | (at_builtin
             refine app_bools _ rfl (.tmp 12) (.tmp 20) rfl w.heap.size _ [] rfl (by exact OwnL.empty _ wr HX.out.size) (Nat.le_trans HX.out.size (Ext.alloc wr _).size) A2 _ _ ((l.drop i).take 8) rfl HCL.out (HA2.out.ext (Ext.alloc wr _)) (by rw [HCL.out]; simp only [List.length_nil]; omega) ?_
             intro v2 w2 hown2 hchg2
             have hext2 := ext_own (HX.out.trans (Ext.alloc wr _)) hchg2
             have HO2 := Lib.hid hown2
             have HX2 := Lib.hid hext2
             clear hchg2 hown2 hext2))
        have hcl2 := HCL.out
        go_loopw [5] (fun b wq => ∃ p : Nat, p ≤ 8 - (k - i) ∧ OwnL w.heap.size wq b ((l.drop i).take 8 ++ List.replicate p false) ∧ Ext w wq) (fun b _ => 8 - lenV b)
        case atStart => exact ⟨0, by omega, by simpa using HO2.out, HX2.out⟩
        case round =>
          obtain ⟨p, hp, hown, hext⟩ := hrel
          obtain ⟨A3, c3, rfl, h5, h6, h7⟩ := own_slice hown
          have hz : ((l.drop i).take 8 ++ List.replicate p false).length = (k - i) + p := by rw [List.length_append, List.length_replicate, HCL.out]
          have HO3 := Lib.hid hown
          have HX3 := Lib.hid hext
          have HZ := Lib.hid hz
          clear hown hext h7 hcl2
          by_cases h8 : (k - i) + p < 8
          · have HNX : Hid ((l.drop i).take 8 ++ List.replicate p false ++ [false] = (l.drop i).take 8 ++ List.replicate (p + 1) false) := Lib.hid (by rw [List.append_assoc, ← List.replicate_succ'])
            generalize hq : ((l.drop i).take 8 ++ List.replicate p false) = ch at *
            clear hq
            rw [hz]
            rw [hz] at h5
            generalize hzz : k - i + p = z at *
            clear hz
            have HZZ := Lib.hid hzz
            clear hzz
            have HO3' : Hid (OwnL w.heap.size wr (.slice A3 z c3) ch) := Lib.hid (by have := HO3.out; rw [HZ.out] at this; exact this)
            go_wp2_with (first
              | (at_builtin
                 refine app_bools _ rfl (.tmp 25) (.tmp 26) rfl w.heap.size (.slice A3 z c3) ch rfl (by exact HO3'.out.ext (Ext.alloc _ _)) (Nat.le_trans HX3.out.size (Ext.alloc _ _).size) (some ⟨wr.heap.size, 0, none⟩) 1 1 [false] rfl rfl (by exact Rd.new wr #[_] 4) (by rw [HZ.out]; simp only [List.length_singleton]; omega) ?_
                 intro v4 w4 hown4 hchg4
                 have hext4 := ext_own (HX3.out.trans (Ext.alloc _ _)) hchg4
                 rw [HNX.out] at hown4
                 have hl4 : ((l.drop i).take 8 ++ List.replicate (p + 1) false).length = z + 1 := by rw [List.length_append, List.length_replicate, HCL.out]; have := HZZ.out; omega
                 obtain ⟨A4, c4, rfl, _, _, _⟩ := own_slice hown4
                 rw [hl4] at hown4 ⊢
                 clear hl4
                 have HO4 := Lib.hid hown4
                 have HX4 := Lib.hid hext4
                 clear hchg4 hown4 hext4))
            go_roundw
            case rel => exact ⟨p + 1, by have := HZZ.out; omega, HO4.out, HX4.out⟩
            case measure => simp only [lenV]; omega
          · have hp8 : p = 8 - (k - i) := by omega
            have hpad : (l.drop i).take 8 ++ List.replicate p false = pad ((l.drop i).take 8) := by rw [pad, HCL.out, hp8]
            have hz8 : k - i + p = 8 := by omega
            rw [hz8] at hz
            have HO5 := Lib.hid (HO3.out.boo)
            rw [hz] at HO5 h5 ⊢
            rw [hpad] at HO5 hz
            have hnum := num_lt (pad ((l.drop i).take 8))
            rw [hz] at hnum
            have hx256 : num (pad ((l.drop i).take 8)) < 256 := hnum
            have hst := fun y hy => bytes_step (j := j) (by rw [HI.out]; exact HP.out) (by rw [HI.out, HN.out]; exact h1) y hy
            rw [HI.out] at hst
            have HST := Lib.hid hst
            have HPL := Lib.hid hz
            clear hst hnum hz hpad HZ HO3 HA2 hsl
            generalize pad ((l.drop i).take 8) = pd at *
            go_wp2_with fail
            refine (rNumber_any _ pd wr HO5.out (by rw [HPL.out]; decide)).mono ?_
            rintro e _ ⟨rfl, rfl⟩
            generalize num pd = x at *
            obtain ⟨y, hy⟩ : ∃ y : UInt8, y.toNat = x := ⟨UInt8.ofNat x, UInt8.toNat_ofNat_of_lt' hx256⟩
            have HY := Lib.hid hy
            clear hy
            have hback := back (w := wr.alloc (.cells #[.int .u8 (x : Int)] 5)) (A := some ⟨wr.heap.size, 0, none⟩) (n := 1) (c := 1) (l := [y]) rfl (by rw [List.map_singleton, byteV, HY.out]; exact Rd.new wr #[_] 5)
            have hss : s.size + 1 ≤ 9223372036854775807 := by
              have := HP.out.1
              rw [size_list, List.length_take] at this
              omega
            go_wp2_with fail
            refine ⟨⟨j + 1, s ++ ⟨#[y]⟩, by have := HI.out; omega, by have := HI.out; congr 1; omega, rfl, by rw [toList_app]; exact HST.out y HY.out, HX3.out.trans (Ext.alloc _ _)⟩, ?_⟩
            simp [intOf]; omega
    · have hfull : l.take i = l := List.take_of_length_le (by rw [HN.out]; omega)
      have hp := HP.out
      rw [hfull] at hp
      clear hfull
      go_wp2
      go_ret
      exact ⟨s, rfl, hp, HX.out⟩
end Go.Proofs.Ytpdebandcmhbcaa
