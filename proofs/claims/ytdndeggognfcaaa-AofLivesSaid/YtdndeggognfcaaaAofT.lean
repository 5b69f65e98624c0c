/- The document's sum and frame; AofTells walked. -/
import Derived.Test.YtdndeggognfcaaaAofK
import Derived.Deep.CutRange
namespace Go.Proofs.Ytdndeggognfcaaa
open Go.RowKit Crc Fil
set_option linter.unusedVariables false
set_option linter.unusedSectionVars false
set_option linter.unusedSimpArgs false
set_option maxRecDepth 100000

set_option maxHeartbeats 4000000 in
theorem rSum_any (s : ByteArray) (w : World) (hs : s.size ≤ 9223372036854775807) :
    Calls Try.prog 12 #[.string s] w fun e w' => e = .returned (.int .u32 (crcL s.toList : Nat)) ∧ w = w' := by
  have HL : Hid (s.toList.length = s.size) := Lib.hid (size_list s)
  go_enter Try.func12, Try.ntmps12
  go_wp2_with fail
  go_loopw [3, 4] (fun n iv wr => ∃ k : Nat, k ≤ s.size ∧ iv = .int .i64 (k : Int) ∧ n = .int .u32 ((s.toList.take k).foldl st 4294967295 : Nat) ∧ wr = w) (fun _ iv _ => s.size - (intOf iv).toNat)
  case atStart => exact ⟨0, by omega, rfl, rfl, rfl⟩
  case round =>
    obtain ⟨k, hk, rfl, rfl, rfl⟩ := hrel
    by_cases hkl : k < s.size
    · have hkI : (k : Int) < (s.size : Int) := by omega
      have hkJ : (0 : Int) ≤ (k : Int) ∧ (k : Int) < (s.size : Int) := by omega
      obtain ⟨c, hc⟩ : ∃ c, s.toList[k]? = some c := ⟨_, List.getElem?_eq_getElem (by rw [HL.out]; exact hkl)⟩
      have hst : (s.toList.take (k + 1)).foldl st 4294967295 = st ((s.toList.take k).foldl st 4294967295) c := by
        rw [List.take_add_one, hc, List.foldl_append]; rfl
      have HST := Lib.hid hst
      have hn := run_lt (s.toList.take k) 4294967295 (by decide)
      have HC := Lib.hid hc
      generalize (s.toList.take k).foldl st 4294967295 = n at hst hn HST
      have hsk : s[k] = c := by
        have h1 := HC.out
        rw [Lib.toList_data, Array.getElem?_toList] at h1
        obtain ⟨_, h2⟩ := Array.getElem?_eq_some_iff.1 h1
        exact h2
      have hcl := c.toNat_lt
      have hxk : bits BinOp.xor IntKind.u32 (n : Int) ((s[k].toNat : Int) % 4294967296) = ((n ^^^ c.toNat : Nat) : Int) := by
        rw [hsk]
        have := u32_xor_nat n c.toNat hn (by omega)
        rw [Int.emod_eq_of_lt (by omega) (by omega)]
        exact this
      have hm : n ^^^ c.toNat < 4294967296 := Nat.xor_lt_two_pow (n := 32) hn (by omega)
      have HST2 : Hid (List.foldl st 4294967295 (List.take (k + 1) s.toList) = itf 8 (n ^^^ c.toNat)) := Lib.hid (by rw [HST.out]; rfl)
      clear hst hc hsk
      go_upto_region 7 with fail
      clear hxk
      generalize n ^^^ c.toNat = m at hm HST2 ⊢
      go_wp2_with fail
      go_loopw [3, 5] (fun x iv wq => ∃ j : Nat, j ≤ 8 ∧ iv = .int .i64 (j : Int) ∧ x = .int .u32 (itf j m : Nat) ∧ wq = wr) (fun _ iv _ => 8 - (intOf iv).toNat)
      case atStart => exact ⟨0, by omega, rfl, rfl, rfl⟩
      case round =>
        obtain ⟨j, hj, rfl, rfl, rfl⟩ := hrel
        by_cases hjl : j < 8
        · have hjI : (j : Int) < 8 := by omega
          have hx := itf_lt j hm
          have hnx : itf (j + 1) m = f1 (itf j m) := rfl
          have HNX := Lib.hid hnx
          generalize itf j m = x at hx hnx HNX
          clear hnx
          by_cases hpar : x % 2 = 1
          · have hp : ((x : Int) % 2 == 1) = true := by simp; omega
            have hxv : bits BinOp.xor IntKind.u32 ((x : Int) / 2) 3988292384 = ((f1 x : Nat) : Int) := by
              have e1 : (x : Int) / 2 = ((x / 2 : Nat) : Int) := by omega
              unfold f1
              rw [e1, if_pos hpar]
              exact u32_xor_nat (x / 2) pol (by omega) (by decide)
            have HXV := Lib.hid hxv
            clear hxv
            go_wp2_with fail
            go_roundw
            case rel => exact ⟨j + 1, by omega, by go_num, by rw [HNX.out, HXV.out], trivial⟩
            case measure => simp [intOf]; omega
          · have hp : ((x : Int) % 2 == 1) = false := by simp; omega
            have HXV : Hid ((x : Int) / 2 = ((f1 x : Nat) : Int)) := Lib.hid (by
              unfold f1
              rw [if_neg hpar, Nat.xor_zero]
              omega)
            go_wp2_with fail
            go_roundw
            case rel => exact ⟨j + 1, by omega, by go_num, by rw [HNX.out, HXV.out], trivial⟩
            case measure => simp [intOf]; omega
        · obtain rfl : j = 8 := by omega
          go_wp2_with fail
          go_roundw
          case rel => exact ⟨k + 1, by omega, by go_num, by rw [HST2.out], trivial⟩
          case measure => simp [intOf]; omega
    · obtain rfl : k = s.size := by omega
      rw [List.take_of_length_le (by rw [HL.out]; exact Nat.le_refl _)]
      have hn := run_lt s.toList 4294967295 (by decide)
      have hcr : crcL s.toList = 4294967295 - s.toList.foldl st 4294967295 := rfl
      have HCR := Lib.hid hcr
      generalize s.toList.foldl st 4294967295 = n at hn hcr HCR ⊢
      have hsb : (4294967295 - (n : Int)) = ((4294967295 - n : Nat) : Int) := by omega
      have HSB := Lib.hid hsb
      clear hcr hsb
      go_wp2_with fail
      go_ret
      exact ⟨by rw [HCR.out, ← HSB.out]; rfl, rfl⟩
set_option maxHeartbeats 4000000 in
theorem four_any (n : Nat) (hn : n < 4294967296) (w : World) :
    Calls Try.prog 37 #[.int .u32 (n : Int)] w fun e w' => e = .returned (.string (bs (four n))) ∧ Ext w w' := by
  have b1 : byteV (UInt8.ofNat (n / 16777216)) = .int .u8 ((n : Int) / 16777216) := byteV_nat _ _ (by omega)
  have b2 : byteV (UInt8.ofNat (n / 65536)) = .int .u8 ((n : Int) / 65536 % 256) := byteV_nat _ _ (by omega)
  have b3 : byteV (UInt8.ofNat (n / 256)) = .int .u8 ((n : Int) / 256 % 256) := byteV_nat _ _ (by omega)
  have b4 : byteV (UInt8.ofNat n) = .int .u8 ((n : Int) % 256) := byteV_nat _ _ (by omega)
  have hr : Rd (w.alloc (.cells #[.int .u8 ((n : Int) / 16777216), .int .u8 ((n : Int) / 65536 % 256), .int .u8 ((n : Int) / 256 % 256), .int .u8 ((n : Int) % 256)] 5)) (some ⟨w.heap.size, 0, none⟩) ((four n).map byteV) := by
    have h := Rd.new w #[.int .u8 ((n : Int) / 16777216), .int .u8 ((n : Int) / 65536 % 256), .int .u8 ((n : Int) / 256 % 256), .int .u8 ((n : Int) % 256)] 5
    unfold four
    simp only [List.map_cons, List.map_nil, b1, b2, b3, b4]
    exact h
  have hback := back (c := 4) (l := four n) (n := 4) rfl hr
  have hx := Ext.alloc w (.cells #[.int .u8 ((n : Int) / 16777216), .int .u8 ((n : Int) / 65536 % 256), .int .u8 ((n : Int) / 256 % 256), .int .u8 ((n : Int) % 256)] 5)
  clear hr b1 b2 b3 b4
  go_enter Try.func37, Try.ntmps37
  go_wp2_with fail
  go_ret
  exact ⟨rfl, hx⟩
set_option maxHeartbeats 4000000 in
theorem rFrame_any (s : ByteArray) (w : World) (hs : s.size ≤ 9223372036854775807) :
    Calls Try.prog 14 #[.string s] w fun e w' => e = .returned (.string (bs (frm s.toList))) ∧ Ext w w' := by
  have hl := size_list s
  by_cases hg : good s.toList
  · have hg2 := hg
    unfold good at hg2
    rw [hl] at hg2
    have h1 : decide ((s.size : Int) < 1) = false := decide_eq_false (by omega)
    have h2 : decide ((65536 : Int) < (s.size : Int)) = false := decide_eq_false (by omega)
    have h3 : decide (65536 < s.size) = false := decide_eq_false (by omega)
    have h0 : decide (s.size < 1) = false := decide_eq_false (by omega)
    have h00 : decide (s.size = 0) = false := decide_eq_false (by omega)
    have hmod : (s.size : Int) % 4294967296 = (s.size : Int) := by omega
    have HF : Hid (frm s.toList = four s.size ++ (s.toList ++ four (crcL s.toList))) := Lib.hid (by unfold frm; rw [if_pos hg, hl])
    have hcr : crcL s.toList < 4294967296 := by unfold crcL; omega
    have h4 := bs_size (four s.size)
    have h5 := bs_size (four (crcL s.toList))
    rw [four_len] at h4 h5
    go_enter Try.func14, Try.ntmps14
    go_wp2_with fail
    refine (four_any s.size (by omega) w).mono ?_
    rintro e w1 ⟨rfl, hx1⟩
    go_wp2_with fail
    refine (rSum_any s w1 hs).mono ?_
    rintro e _ ⟨rfl, rfl⟩
    go_wp2_with fail
    refine (four_any (crcL s.toList) hcr w1).mono ?_
    rintro e w3 ⟨rfl, hx3⟩
    have hsz : (bs (four s.size) ++ s).size = 4 + s.size := by rw [ByteArray.size_append, h4]
    go_wp2_with fail
    go_ret
    refine ⟨?_, hx1.trans hx3⟩
    show Ending.returned (.string (bs (four s.size) ++ s ++ bs (four (crcL s.toList)))) = _
    have : bs (four s.size) ++ s ++ bs (four (crcL s.toList)) = bs (frm s.toList) := bytes_ext (by rw [toList_append2, toList_append2, bs_list, bs_list, bs_list, HF.out, List.append_assoc])
    rw [this]
  · have hf : frm s.toList = [] := if_neg hg
    rw [hf]
    have he : bs [] = ⟨#[]⟩ := rfl
    rw [he]
    unfold good at hg
    rw [hl] at hg
    by_cases h0 : s.size = 0
    · have h1 : decide ((s.size : Int) < 1) = true := decide_eq_true (by omega)
      have h2 : decide (s.size < 1) = true := decide_eq_true (by omega)
      go_enter Try.func14, Try.ntmps14
      go_wp2_with fail
      go_ret
      exact ⟨rfl, Ext.refl _⟩
    · have h1 : decide ((s.size : Int) < 1) = false := decide_eq_false (by omega)
      have h1' : decide (s.size < 1) = false := decide_eq_false (by omega)
      have h00 : decide (s.size = 0) = false := decide_eq_false (by omega)
      have h2 : decide ((65536 : Int) < (s.size : Int)) = true := decide_eq_true (by omega)
      have h3 : decide (65536 < s.size) = true := decide_eq_true (by omega)
      go_enter Try.func14, Try.ntmps14
      go_wp2_with fail
      go_ret
      exact ⟨rfl, Ext.refl _⟩
set_option maxHeartbeats 4000000 in
theorem aofTells_any (s : ByteArray) (w : World) (hs : s.size ≤ 9223372036854775807) : Calls Try.prog 3 #[.string s] w fun e w' => e = .returned (.bool true) ∧ Ext w w' := by
  by_cases h2 : s.size ≤ 2000
  · have h2I : ¬ (2000 : Int) < (s.size : Int) := by omega
    go_enter Try.func3, Try.ntmps3
    go_wp2_with fail
    refine (sumF_any s w (by omega)).mono ?_
    rintro e w1 ⟨rfl, hx1⟩
    go_wp2_with fail
    refine (rSum_any s w1 hs).mono ?_
    rintro e _ ⟨rfl, rfl⟩
    go_wp2_with fail
    refine (frameF_any s w1 hs).mono ?_
    rintro e w2 ⟨rfl, hx2⟩
    go_wp2_with fail
    refine (rFrame_any s w2 hs).mono ?_
    rintro e w3 ⟨rfl, hx3⟩
    have HX := Lib.hid (hx1.trans (hx2.trans hx3))
    clear hx1 hx2 hx3
    generalize bs (frm s.toList) = fr
    go_wp2_with fail
    refine (known_any _).mono ?_
    rintro e w9 ⟨rfl, hx9⟩
    go_wp2_with fail
    go_ret
    exact ⟨rfl, HX.out.trans hx9⟩
  · have h2I : (2000 : Int) < (s.size : Int) := by omega
    go_enter Try.func3, Try.ntmps3
    go_wp2_with fail
    refine (known_any _).mono ?_
    rintro e w9 ⟨rfl, hx9⟩
    go_wp2_with fail
    go_ret
    exact ⟨rfl, hx9⟩
end Go.Proofs.Ytdndeggognfcaaa
