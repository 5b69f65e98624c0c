/- The walks of delta's code and Get. -/
import Derived.Test.YtpdebandcmhbcaaDelC
namespace Go.Proofs.Ytpdebandcmhbcaa
open Go.RowKit Bit
set_option linter.unusedVariables false

/-- What the bits behind a prefix tell. -/
theorem get_tail (l : List Bool) (K : Nat) (hK : onesB 4 l = K) (s : ByteArray) (a m : Nat) (hl : l = bitsAt s a m) (hhead : headN K ≤ m) (hns : ¬ (K < 4 ∧ K = m)) :
    (m < headN K + widthN K → getB l = (0, 0, 3)) ∧ (headN K + widthN K ≤ m →
      (classN (num (bitsAt s (a + headN K) (widthN K))) ≠ K → getB l = (0, 0, 4)) ∧ (classN (num (bitsAt s (a + headN K) (widthN K))) = K → getB l = (num (bitsAt s (a + headN K) (widthN K)), headN K + widthN K, 0))) := by
  have hlen : l.length = m := by rw [hl, bitsAt_length]
  have hns' : ¬ (onesB 4 l < 4 ∧ onesB 4 l = l.length) := by rw [hK, hlen]; exact hns
  refine ⟨fun h => ?_, fun h => ?_⟩
  · unfold getB
    simp only
    rw [if_neg hns', hK, if_pos (by omega)]
  · have hcut : (l.drop (headN K)).take (widthN K) = bitsAt s (a + headN K) (widthN K) := by rw [hl, bitsAt_cut _ _ _ _ _ h]
    constructor
    · intro hc
      unfold getB
      simp only
      rw [if_neg hns', hK, if_neg (by omega), hcut, if_pos hc]
    · intro hc
      unfold getB
      simp only
      rw [if_neg hns', hK, if_neg (by omega), hcut, if_neg (by simpa using hc)]
theorem get_none (l : List Bool) (h1 : onesB 4 l < 4) (h2 : onesB 4 l = l.length) : getB l = (0, 0, 3) := by
  unfold getB
  simp only
  rw [if_pos ⟨h1, h2⟩]
def CodePost (B g : Nat) (s : ByteArray) (n k : Nat) (w : World) (e : Ending) (w' : World) : Prop :=
  ∃ (u m : Nat) (x : Int), e = .returned (.tuple #[.int .u64 (u : Int), .int .i64 x]) ∧ getB (bitsAt s k (n - k)) = (u, m, x) ∧ ∃ k', Rdr w' g s n k' ∧ k ≤ k' ∧ k' ≤ n ∧ (x = 0 → k' = k + m) ∧ Chg B [77] w w'
set_option maxHeartbeats 4000000 in
theorem code_at (B g : Nat) (s : ByteArray) (n k K : Nat) (w : World) (h : Rdr w g s n k) (hk : k ≤ n) (hn : n ≤ 34359738368) (hn8 : n ≤ 8 * s.size) (hs : s.size ≤ 4294967296) (hB : B ≤ g) (hK : onesB 4 (bitsAt s k (n - k)) = K) :
    Calls Try.prog 40 #[.pointer (some ⟨g, 0, none⟩)] w (CodePost B g s n k w) := by
  unfold CodePost
  have hK4 : K ≤ 4 := by rw [← hK]; exact ones_le _ _
  have H := Lib.hid h
  have HK := Lib.hid hK
  clear h hK
  rcases (by omega : K = 0 ∨ K = 1 ∨ K = 2 ∨ K = 3 ∨ K = 4) with rfl | rfl | rfl | rfl | rfl
  · go_enter Try.func40, Try.ntmps40
    go_wp2_with fail
    go_loopw [4] (fun i wr => ∃ j : Nat, j ≤ 0 ∧ i = .int .i64 (j : Int) ∧ Rdr wr g s n (k + j) ∧ Chg B [77] w wr) (fun i _ => 4 - (intOf i).toNat)
    case atStart => exact ⟨0, by omega, rfl, H.out, Chg.refl _ _ _⟩
    case round =>
      obtain ⟨j, hj, rfl, hr, hc⟩ := hrel
      have HR := Lib.hid hr
      have HC := Lib.hid hc
      clear hr hc
      by_cases hj4 : j < 4
      · by_cases hl : k + j < n
        · by_cases hjK : j < 0
          · omega
          · have hb : num (bitsAt s (k + j) 1) = 0 := by
              have h1 := ones_end 4 (bitsAt s k (n - k)) (by rw [HK.out]; omega) (by rw [HK.out, bitsAt_length]; omega)
              rw [HK.out, show 0 = j by omega, bitsAt_get _ _ _ _ (by omega)] at h1
              injection h1 with h1
              rw [num_one, h1]; rfl
            have hget := get_tail (bitsAt s k (n - k)) 0 HK.out s k (n - k) rfl (by simp only [headN]; omega) (by omega)
            simp only [headN] at hget
            go_wp2_with fail
            refine (get_ok B g s n (k + j) 1 wr HR.out hn8 hs (by decide) (by omega) hB).mono ?_
            rintro e w1 ⟨rfl, hr1, hc1⟩
            rw [hb]
            obtain rfl : j = 0 := by omega
            have HRT : Hid (Rdr w1 g s n (k + 1)) := Lib.hid hr1
            have HCT := Lib.hid (HC.out.trans hc1)
            have HGET : Hid ((¬ (k + 1 + widthN 0 ≤ n) → _) ∧ (k + 1 + widthN 0 ≤ n → _)) := Lib.hid ⟨fun h => hget.1 (by omega), fun h => hget.2 (by omega)⟩
            clear hr1 hc1 hget hb HR
            go_wp2_with fail
            refine (widths_any w1).mono ?_
            rintro e w5 ⟨rfl, hx5⟩
            have HR5 := Lib.hid (HRT.out.ext hx5)
            have HC5 := Lib.hid (HCT.out.trans (Chg.of_ext hx5))
            clear hx5
            unfold widthsV
            have hix := Try.index0 w5
            by_cases hlen : k + 1 + widthN 0 ≤ n
            · have HG := Lib.hid (HGET.out.2 hlen)
              go_wp2_with fail
              refine (get_ok B g s n (k + 1) (widthN 0) w5 HR5.out hn8 hs (by decide) hlen hB).mono ?_
              rintro e w6 ⟨rfl, hr6, hc6⟩
              have HR6 := Lib.hid hr6
              have HC6 := Lib.hid (HC5.out.trans hc6)
              clear hr6 hc6
              go_wp2_with fail
              refine (class_any (num (bitsAt s (k + 1) (widthN 0))) w6 (by have := num_lt (bitsAt s (k + 1) (widthN 0)); rw [bitsAt_length] at this; exact Nat.lt_of_lt_of_le this (by decide))).mono ?_
              rintro e w7 ⟨rfl, hx7⟩
              have HR7 := Lib.hid (HR6.out.ext hx7)
              have HC7 := Lib.hid (HC6.out.trans (Chg.of_ext hx7))
              clear hx7
              by_cases hcl : classN (num (bitsAt s (k + 1) (widthN 0))) = 0
              · have hcl2 : ((classN (num (bitsAt s (k + 1) (widthN 0))) : Int) == 0) = true := by rw [hcl]; rfl
                have hcl3 : ((classN (num (bitsAt s (k + 1) (widthN 0))) : Int) != 0) = false := by rw [hcl]; rfl
                have HG2 := Lib.hid (HG.out.2 hcl)
                clear hcl
                go_wp2_with fail
                go_ret2
                refine ⟨_, _, _, rfl, by simpa using HG2.out, _, HR7.out, by omega, by omega, ?_, HC7.out⟩
                intro _
                first | omega | (simp only [headN, widthN] <;> omega)
              · have hcl2 : ((classN (num (bitsAt s (k + 1) (widthN 0))) : Int) == 0) = false := by simp; omega
                have hcl3 : ((classN (num (bitsAt s (k + 1) (widthN 0))) : Int) != 0) = true := by simp; omega
                have HG2 := Lib.hid (HG.out.1 hcl)
                clear hcl
                go_wp2_with fail
                go_ret2
                exact ⟨_, _, _, rfl, HG2.out, _, HR7.out, by omega, by omega, fun h => absurd h (by decide), HC7.out⟩
            · have HG := Lib.hid (HGET.out.1 (by omega))
              go_wp2_with fail
              refine (get_short g s n (k + 1) (widthN 0) w5 HR5.out (by omega) hn (by decide) (by omega)).mono ?_
              rintro e w6 ⟨rfl, q6, rfl⟩
              go_wp2_with fail
              go_ret2
              exact ⟨_, _, _, rfl, HG.out, _, HR5.out, by omega, by omega, fun h => absurd h (by decide), HC5.out.drewN _⟩
        · have hget := get_none (bitsAt s k (n - k)) (by rw [HK.out]; have := ones_len 4 (bitsAt s k (n - k)); rw [HK.out, bitsAt_length] at this; omega) (by have := ones_len 4 (bitsAt s k (n - k)); rw [HK.out, bitsAt_length] at *; omega)
          have HG := Lib.hid hget
          clear hget
          go_wp2_with fail
          refine (get_short g s n (k + j) 1 wr HR.out (by have := ones_len 4 (bitsAt s k (n - k)); rw [HK.out, bitsAt_length] at this; omega) hn (by decide) (by omega)).mono ?_
          rintro e w6 ⟨rfl, q6, rfl⟩
          go_wp2_with fail
          go_ret2
          exact ⟨_, _, _, rfl, HG.out, _, HR.out, by omega, by have := ones_len 4 (bitsAt s k (n - k)); rw [HK.out, bitsAt_length] at this; omega, fun h => absurd h (by decide), HC.out.drewN _⟩
      · omega
  · go_enter Try.func40, Try.ntmps40
    go_wp2_with fail
    go_loopw [4] (fun i wr => ∃ j : Nat, j ≤ 1 ∧ i = .int .i64 (j : Int) ∧ Rdr wr g s n (k + j) ∧ Chg B [77] w wr) (fun i _ => 4 - (intOf i).toNat)
    case atStart => exact ⟨0, by omega, rfl, H.out, Chg.refl _ _ _⟩
    case round =>
      obtain ⟨j, hj, rfl, hr, hc⟩ := hrel
      have HR := Lib.hid hr
      have HC := Lib.hid hc
      clear hr hc
      by_cases hj4 : j < 4
      · by_cases hl : k + j < n
        · by_cases hjK : j < 1
          · have hb : num (bitsAt s (k + j) 1) = 1 := by
              have h1 := ones_at 4 (bitsAt s k (n - k)) j (by rw [HK.out]; exact hjK)
              rw [bitsAt_get _ _ _ _ (by omega)] at h1
              injection h1 with h1
              rw [num_one, h1]; rfl
            go_wp2_with fail
            refine (get_ok B g s n (k + j) 1 wr HR.out hn8 hs (by decide) (by omega) hB).mono ?_
            rintro e w1 ⟨rfl, hr1, hc1⟩
            rw [hb]
            have HR1 := Lib.hid hr1
            have HC1 := Lib.hid (HC.out.trans hc1)
            clear hr1 hc1
            go_wp2_with fail
            go_roundw
            case rel => exact ⟨j + 1, by omega, by go_num, HR1.out, HC1.out⟩
            case measure => (simp [intOf] <;> omega)
          · have hb : num (bitsAt s (k + j) 1) = 0 := by
              have h1 := ones_end 4 (bitsAt s k (n - k)) (by rw [HK.out]; omega) (by rw [HK.out, bitsAt_length]; omega)
              rw [HK.out, show 1 = j by omega, bitsAt_get _ _ _ _ (by omega)] at h1
              injection h1 with h1
              rw [num_one, h1]; rfl
            have hget := get_tail (bitsAt s k (n - k)) 1 HK.out s k (n - k) rfl (by simp only [headN]; omega) (by omega)
            simp only [headN] at hget
            go_wp2_with fail
            refine (get_ok B g s n (k + j) 1 wr HR.out hn8 hs (by decide) (by omega) hB).mono ?_
            rintro e w1 ⟨rfl, hr1, hc1⟩
            rw [hb]
            obtain rfl : j = 1 := by omega
            have HRT : Hid (Rdr w1 g s n (k + 2)) := Lib.hid hr1
            have HCT := Lib.hid (HC.out.trans hc1)
            have HGET : Hid ((¬ (k + 2 + widthN 1 ≤ n) → _) ∧ (k + 2 + widthN 1 ≤ n → _)) := Lib.hid ⟨fun h => hget.1 (by omega), fun h => hget.2 (by omega)⟩
            clear hr1 hc1 hget hb HR
            go_wp2_with fail
            refine (widths_any w1).mono ?_
            rintro e w5 ⟨rfl, hx5⟩
            have HR5 := Lib.hid (HRT.out.ext hx5)
            have HC5 := Lib.hid (HCT.out.trans (Chg.of_ext hx5))
            clear hx5
            unfold widthsV
            have hix := Try.index1 w5
            by_cases hlen : k + 2 + widthN 1 ≤ n
            · have HG := Lib.hid (HGET.out.2 hlen)
              go_wp2_with fail
              refine (get_ok B g s n (k + 2) (widthN 1) w5 HR5.out hn8 hs (by decide) hlen hB).mono ?_
              rintro e w6 ⟨rfl, hr6, hc6⟩
              have HR6 := Lib.hid hr6
              have HC6 := Lib.hid (HC5.out.trans hc6)
              clear hr6 hc6
              go_wp2_with fail
              refine (class_any (num (bitsAt s (k + 2) (widthN 1))) w6 (by have := num_lt (bitsAt s (k + 2) (widthN 1)); rw [bitsAt_length] at this; exact Nat.lt_of_lt_of_le this (by decide))).mono ?_
              rintro e w7 ⟨rfl, hx7⟩
              have HR7 := Lib.hid (HR6.out.ext hx7)
              have HC7 := Lib.hid (HC6.out.trans (Chg.of_ext hx7))
              clear hx7
              by_cases hcl : classN (num (bitsAt s (k + 2) (widthN 1))) = 1
              · have hcl2 : ((classN (num (bitsAt s (k + 2) (widthN 1))) : Int) == 1) = true := by rw [hcl]; rfl
                have hcl3 : ((classN (num (bitsAt s (k + 2) (widthN 1))) : Int) != 1) = false := by rw [hcl]; rfl
                have HG2 := Lib.hid (HG.out.2 hcl)
                clear hcl
                go_wp2_with fail
                go_ret2
                refine ⟨_, _, _, rfl, by simpa using HG2.out, _, HR7.out, by omega, by omega, ?_, HC7.out⟩
                intro _
                first | omega | (simp only [headN, widthN] <;> omega)
              · have hcl2 : ((classN (num (bitsAt s (k + 2) (widthN 1))) : Int) == 1) = false := by simp; omega
                have hcl3 : ((classN (num (bitsAt s (k + 2) (widthN 1))) : Int) != 1) = true := by simp; omega
                have HG2 := Lib.hid (HG.out.1 hcl)
                clear hcl
                go_wp2_with fail
                go_ret2
                exact ⟨_, _, _, rfl, HG2.out, _, HR7.out, by omega, by omega, fun h => absurd h (by decide), HC7.out⟩
            · have HG := Lib.hid (HGET.out.1 (by omega))
              go_wp2_with fail
              refine (get_short g s n (k + 2) (widthN 1) w5 HR5.out (by omega) hn (by decide) (by omega)).mono ?_
              rintro e w6 ⟨rfl, q6, rfl⟩
              go_wp2_with fail
              go_ret2
              exact ⟨_, _, _, rfl, HG.out, _, HR5.out, by omega, by omega, fun h => absurd h (by decide), HC5.out.drewN _⟩
        · have hget := get_none (bitsAt s k (n - k)) (by rw [HK.out]; have := ones_len 4 (bitsAt s k (n - k)); rw [HK.out, bitsAt_length] at this; omega) (by have := ones_len 4 (bitsAt s k (n - k)); rw [HK.out, bitsAt_length] at *; omega)
          have HG := Lib.hid hget
          clear hget
          go_wp2_with fail
          refine (get_short g s n (k + j) 1 wr HR.out (by have := ones_len 4 (bitsAt s k (n - k)); rw [HK.out, bitsAt_length] at this; omega) hn (by decide) (by omega)).mono ?_
          rintro e w6 ⟨rfl, q6, rfl⟩
          go_wp2_with fail
          go_ret2
          exact ⟨_, _, _, rfl, HG.out, _, HR.out, by omega, by have := ones_len 4 (bitsAt s k (n - k)); rw [HK.out, bitsAt_length] at this; omega, fun h => absurd h (by decide), HC.out.drewN _⟩
      · omega
  · go_enter Try.func40, Try.ntmps40
    go_wp2_with fail
    go_loopw [4] (fun i wr => ∃ j : Nat, j ≤ 2 ∧ i = .int .i64 (j : Int) ∧ Rdr wr g s n (k + j) ∧ Chg B [77] w wr) (fun i _ => 4 - (intOf i).toNat)
    case atStart => exact ⟨0, by omega, rfl, H.out, Chg.refl _ _ _⟩
    case round =>
      obtain ⟨j, hj, rfl, hr, hc⟩ := hrel
      have HR := Lib.hid hr
      have HC := Lib.hid hc
      clear hr hc
      by_cases hj4 : j < 4
      · by_cases hl : k + j < n
        · by_cases hjK : j < 2
          · have hb : num (bitsAt s (k + j) 1) = 1 := by
              have h1 := ones_at 4 (bitsAt s k (n - k)) j (by rw [HK.out]; exact hjK)
              rw [bitsAt_get _ _ _ _ (by omega)] at h1
              injection h1 with h1
              rw [num_one, h1]; rfl
            go_wp2_with fail
            refine (get_ok B g s n (k + j) 1 wr HR.out hn8 hs (by decide) (by omega) hB).mono ?_
            rintro e w1 ⟨rfl, hr1, hc1⟩
            rw [hb]
            have HR1 := Lib.hid hr1
            have HC1 := Lib.hid (HC.out.trans hc1)
            clear hr1 hc1
            go_wp2_with fail
            go_roundw
            case rel => exact ⟨j + 1, by omega, by go_num, HR1.out, HC1.out⟩
            case measure => (simp [intOf] <;> omega)
          · have hb : num (bitsAt s (k + j) 1) = 0 := by
              have h1 := ones_end 4 (bitsAt s k (n - k)) (by rw [HK.out]; omega) (by rw [HK.out, bitsAt_length]; omega)
              rw [HK.out, show 2 = j by omega, bitsAt_get _ _ _ _ (by omega)] at h1
              injection h1 with h1
              rw [num_one, h1]; rfl
            have hget := get_tail (bitsAt s k (n - k)) 2 HK.out s k (n - k) rfl (by simp only [headN]; omega) (by omega)
            simp only [headN] at hget
            go_wp2_with fail
            refine (get_ok B g s n (k + j) 1 wr HR.out hn8 hs (by decide) (by omega) hB).mono ?_
            rintro e w1 ⟨rfl, hr1, hc1⟩
            rw [hb]
            obtain rfl : j = 2 := by omega
            have HRT : Hid (Rdr w1 g s n (k + 3)) := Lib.hid hr1
            have HCT := Lib.hid (HC.out.trans hc1)
            have HGET : Hid ((¬ (k + 3 + widthN 2 ≤ n) → _) ∧ (k + 3 + widthN 2 ≤ n → _)) := Lib.hid ⟨fun h => hget.1 (by omega), fun h => hget.2 (by omega)⟩
            clear hr1 hc1 hget hb HR
            go_wp2_with fail
            refine (widths_any w1).mono ?_
            rintro e w5 ⟨rfl, hx5⟩
            have HR5 := Lib.hid (HRT.out.ext hx5)
            have HC5 := Lib.hid (HCT.out.trans (Chg.of_ext hx5))
            clear hx5
            unfold widthsV
            have hix := Try.index2 w5
            by_cases hlen : k + 3 + widthN 2 ≤ n
            · have HG := Lib.hid (HGET.out.2 hlen)
              go_wp2_with fail
              refine (get_ok B g s n (k + 3) (widthN 2) w5 HR5.out hn8 hs (by decide) hlen hB).mono ?_
              rintro e w6 ⟨rfl, hr6, hc6⟩
              have HR6 := Lib.hid hr6
              have HC6 := Lib.hid (HC5.out.trans hc6)
              clear hr6 hc6
              go_wp2_with fail
              refine (class_any (num (bitsAt s (k + 3) (widthN 2))) w6 (by have := num_lt (bitsAt s (k + 3) (widthN 2)); rw [bitsAt_length] at this; exact Nat.lt_of_lt_of_le this (by decide))).mono ?_
              rintro e w7 ⟨rfl, hx7⟩
              have HR7 := Lib.hid (HR6.out.ext hx7)
              have HC7 := Lib.hid (HC6.out.trans (Chg.of_ext hx7))
              clear hx7
              by_cases hcl : classN (num (bitsAt s (k + 3) (widthN 2))) = 2
              · have hcl2 : ((classN (num (bitsAt s (k + 3) (widthN 2))) : Int) == 2) = true := by rw [hcl]; rfl
                have hcl3 : ((classN (num (bitsAt s (k + 3) (widthN 2))) : Int) != 2) = false := by rw [hcl]; rfl
                have HG2 := Lib.hid (HG.out.2 hcl)
                clear hcl
                go_wp2_with fail
                go_ret2
                refine ⟨_, _, _, rfl, by simpa using HG2.out, _, HR7.out, by omega, by omega, ?_, HC7.out⟩
                intro _
                first | omega | (simp only [headN, widthN] <;> omega)
              · have hcl2 : ((classN (num (bitsAt s (k + 3) (widthN 2))) : Int) == 2) = false := by simp; omega
                have hcl3 : ((classN (num (bitsAt s (k + 3) (widthN 2))) : Int) != 2) = true := by simp; omega
                have HG2 := Lib.hid (HG.out.1 hcl)
                clear hcl
                go_wp2_with fail
                go_ret2
                exact ⟨_, _, _, rfl, HG2.out, _, HR7.out, by omega, by omega, fun h => absurd h (by decide), HC7.out⟩
            · have HG := Lib.hid (HGET.out.1 (by omega))
              go_wp2_with fail
              refine (get_short g s n (k + 3) (widthN 2) w5 HR5.out (by omega) hn (by decide) (by omega)).mono ?_
              rintro e w6 ⟨rfl, q6, rfl⟩
              go_wp2_with fail
              go_ret2
              exact ⟨_, _, _, rfl, HG.out, _, HR5.out, by omega, by omega, fun h => absurd h (by decide), HC5.out.drewN _⟩
        · have hget := get_none (bitsAt s k (n - k)) (by rw [HK.out]; have := ones_len 4 (bitsAt s k (n - k)); rw [HK.out, bitsAt_length] at this; omega) (by have := ones_len 4 (bitsAt s k (n - k)); rw [HK.out, bitsAt_length] at *; omega)
          have HG := Lib.hid hget
          clear hget
          go_wp2_with fail
          refine (get_short g s n (k + j) 1 wr HR.out (by have := ones_len 4 (bitsAt s k (n - k)); rw [HK.out, bitsAt_length] at this; omega) hn (by decide) (by omega)).mono ?_
          rintro e w6 ⟨rfl, q6, rfl⟩
          go_wp2_with fail
          go_ret2
          exact ⟨_, _, _, rfl, HG.out, _, HR.out, by omega, by have := ones_len 4 (bitsAt s k (n - k)); rw [HK.out, bitsAt_length] at this; omega, fun h => absurd h (by decide), HC.out.drewN _⟩
      · omega
  · go_enter Try.func40, Try.ntmps40
    go_wp2_with fail
    go_loopw [4] (fun i wr => ∃ j : Nat, j ≤ 3 ∧ i = .int .i64 (j : Int) ∧ Rdr wr g s n (k + j) ∧ Chg B [77] w wr) (fun i _ => 4 - (intOf i).toNat)
    case atStart => exact ⟨0, by omega, rfl, H.out, Chg.refl _ _ _⟩
    case round =>
      obtain ⟨j, hj, rfl, hr, hc⟩ := hrel
      have HR := Lib.hid hr
      have HC := Lib.hid hc
      clear hr hc
      by_cases hj4 : j < 4
      · by_cases hl : k + j < n
        · by_cases hjK : j < 3
          · have hb : num (bitsAt s (k + j) 1) = 1 := by
              have h1 := ones_at 4 (bitsAt s k (n - k)) j (by rw [HK.out]; exact hjK)
              rw [bitsAt_get _ _ _ _ (by omega)] at h1
              injection h1 with h1
              rw [num_one, h1]; rfl
            go_wp2_with fail
            refine (get_ok B g s n (k + j) 1 wr HR.out hn8 hs (by decide) (by omega) hB).mono ?_
            rintro e w1 ⟨rfl, hr1, hc1⟩
            rw [hb]
            have HR1 := Lib.hid hr1
            have HC1 := Lib.hid (HC.out.trans hc1)
            clear hr1 hc1
            go_wp2_with fail
            go_roundw
            case rel => exact ⟨j + 1, by omega, by go_num, HR1.out, HC1.out⟩
            case measure => (simp [intOf] <;> omega)
          · have hb : num (bitsAt s (k + j) 1) = 0 := by
              have h1 := ones_end 4 (bitsAt s k (n - k)) (by rw [HK.out]; omega) (by rw [HK.out, bitsAt_length]; omega)
              rw [HK.out, show 3 = j by omega, bitsAt_get _ _ _ _ (by omega)] at h1
              injection h1 with h1
              rw [num_one, h1]; rfl
            have hget := get_tail (bitsAt s k (n - k)) 3 HK.out s k (n - k) rfl (by simp only [headN]; omega) (by omega)
            simp only [headN] at hget
            go_wp2_with fail
            refine (get_ok B g s n (k + j) 1 wr HR.out hn8 hs (by decide) (by omega) hB).mono ?_
            rintro e w1 ⟨rfl, hr1, hc1⟩
            rw [hb]
            obtain rfl : j = 3 := by omega
            have HRT : Hid (Rdr w1 g s n (k + 4)) := Lib.hid hr1
            have HCT := Lib.hid (HC.out.trans hc1)
            have HGET : Hid ((¬ (k + 4 + widthN 3 ≤ n) → _) ∧ (k + 4 + widthN 3 ≤ n → _)) := Lib.hid ⟨fun h => hget.1 (by omega), fun h => hget.2 (by omega)⟩
            clear hr1 hc1 hget hb HR
            go_wp2_with fail
            refine (widths_any w1).mono ?_
            rintro e w5 ⟨rfl, hx5⟩
            have HR5 := Lib.hid (HRT.out.ext hx5)
            have HC5 := Lib.hid (HCT.out.trans (Chg.of_ext hx5))
            clear hx5
            unfold widthsV
            have hix := Try.index3 w5
            by_cases hlen : k + 4 + widthN 3 ≤ n
            · have HG := Lib.hid (HGET.out.2 hlen)
              go_wp2_with fail
              refine (get_ok B g s n (k + 4) (widthN 3) w5 HR5.out hn8 hs (by decide) hlen hB).mono ?_
              rintro e w6 ⟨rfl, hr6, hc6⟩
              have HR6 := Lib.hid hr6
              have HC6 := Lib.hid (HC5.out.trans hc6)
              clear hr6 hc6
              go_wp2_with fail
              refine (class_any (num (bitsAt s (k + 4) (widthN 3))) w6 (by have := num_lt (bitsAt s (k + 4) (widthN 3)); rw [bitsAt_length] at this; exact Nat.lt_of_lt_of_le this (by decide))).mono ?_
              rintro e w7 ⟨rfl, hx7⟩
              have HR7 := Lib.hid (HR6.out.ext hx7)
              have HC7 := Lib.hid (HC6.out.trans (Chg.of_ext hx7))
              clear hx7
              by_cases hcl : classN (num (bitsAt s (k + 4) (widthN 3))) = 3
              · have hcl2 : ((classN (num (bitsAt s (k + 4) (widthN 3))) : Int) == 3) = true := by rw [hcl]; rfl
                have hcl3 : ((classN (num (bitsAt s (k + 4) (widthN 3))) : Int) != 3) = false := by rw [hcl]; rfl
                have HG2 := Lib.hid (HG.out.2 hcl)
                clear hcl
                go_wp2_with fail
                go_ret2
                refine ⟨_, _, _, rfl, by simpa using HG2.out, _, HR7.out, by omega, by omega, ?_, HC7.out⟩
                intro _
                first | omega | (simp only [headN, widthN] <;> omega)
              · have hcl2 : ((classN (num (bitsAt s (k + 4) (widthN 3))) : Int) == 3) = false := by simp; omega
                have hcl3 : ((classN (num (bitsAt s (k + 4) (widthN 3))) : Int) != 3) = true := by simp; omega
                have HG2 := Lib.hid (HG.out.1 hcl)
                clear hcl
                go_wp2_with fail
                go_ret2
                exact ⟨_, _, _, rfl, HG2.out, _, HR7.out, by omega, by omega, fun h => absurd h (by decide), HC7.out⟩
            · have HG := Lib.hid (HGET.out.1 (by omega))
              go_wp2_with fail
              refine (get_short g s n (k + 4) (widthN 3) w5 HR5.out (by omega) hn (by decide) (by omega)).mono ?_
              rintro e w6 ⟨rfl, q6, rfl⟩
              go_wp2_with fail
              go_ret2
              exact ⟨_, _, _, rfl, HG.out, _, HR5.out, by omega, by omega, fun h => absurd h (by decide), HC5.out.drewN _⟩
        · have hget := get_none (bitsAt s k (n - k)) (by rw [HK.out]; have := ones_len 4 (bitsAt s k (n - k)); rw [HK.out, bitsAt_length] at this; omega) (by have := ones_len 4 (bitsAt s k (n - k)); rw [HK.out, bitsAt_length] at *; omega)
          have HG := Lib.hid hget
          clear hget
          go_wp2_with fail
          refine (get_short g s n (k + j) 1 wr HR.out (by have := ones_len 4 (bitsAt s k (n - k)); rw [HK.out, bitsAt_length] at this; omega) hn (by decide) (by omega)).mono ?_
          rintro e w6 ⟨rfl, q6, rfl⟩
          go_wp2_with fail
          go_ret2
          exact ⟨_, _, _, rfl, HG.out, _, HR.out, by omega, by have := ones_len 4 (bitsAt s k (n - k)); rw [HK.out, bitsAt_length] at this; omega, fun h => absurd h (by decide), HC.out.drewN _⟩
      · omega
  · go_enter Try.func40, Try.ntmps40
    go_wp2_with fail
    go_loopw [4] (fun i wr => ∃ j : Nat, j ≤ 4 ∧ i = .int .i64 (j : Int) ∧ Rdr wr g s n (k + j) ∧ Chg B [77] w wr) (fun i _ => 4 - (intOf i).toNat)
    case atStart => exact ⟨0, by omega, rfl, H.out, Chg.refl _ _ _⟩
    case round =>
      obtain ⟨j, hj, rfl, hr, hc⟩ := hrel
      have HR := Lib.hid hr
      have HC := Lib.hid hc
      clear hr hc
      by_cases hj4 : j < 4
      · by_cases hl : k + j < n
        · by_cases hjK : j < 4
          · have hb : num (bitsAt s (k + j) 1) = 1 := by
              have h1 := ones_at 4 (bitsAt s k (n - k)) j (by rw [HK.out]; exact hjK)
              rw [bitsAt_get _ _ _ _ (by omega)] at h1
              injection h1 with h1
              rw [num_one, h1]; rfl
            go_wp2_with fail
            refine (get_ok B g s n (k + j) 1 wr HR.out hn8 hs (by decide) (by omega) hB).mono ?_
            rintro e w1 ⟨rfl, hr1, hc1⟩
            rw [hb]
            have HR1 := Lib.hid hr1
            have HC1 := Lib.hid (HC.out.trans hc1)
            clear hr1 hc1
            go_wp2_with fail
            go_roundw
            case rel => exact ⟨j + 1, by omega, by go_num, HR1.out, HC1.out⟩
            case measure => (simp [intOf] <;> omega)
          · omega
        · have hget := get_none (bitsAt s k (n - k)) (by rw [HK.out]; have := ones_len 4 (bitsAt s k (n - k)); rw [HK.out, bitsAt_length] at this; omega) (by have := ones_len 4 (bitsAt s k (n - k)); rw [HK.out, bitsAt_length] at *; omega)
          have HG := Lib.hid hget
          clear hget
          go_wp2_with fail
          refine (get_short g s n (k + j) 1 wr HR.out (by have := ones_len 4 (bitsAt s k (n - k)); rw [HK.out, bitsAt_length] at this; omega) hn (by decide) (by omega)).mono ?_
          rintro e w6 ⟨rfl, q6, rfl⟩
          go_wp2_with fail
          go_ret2
          exact ⟨_, _, _, rfl, HG.out, _, HR.out, by omega, by have := ones_len 4 (bitsAt s k (n - k)); rw [HK.out, bitsAt_length] at this; omega, fun h => absurd h (by decide), HC.out.drewN _⟩
      · obtain rfl : j = 4 := by omega
        have hkn4 : k + 4 ≤ n := by have := ones_len 4 (bitsAt s k (n - k)); rw [HK.out, bitsAt_length] at this; omega
        have hget := get_tail (bitsAt s k (n - k)) 4 HK.out s k (n - k) rfl (by simp only [headN]; omega) (by omega)
        simp only [headN] at hget
        have HRT : Hid (Rdr wr g s n (k + 4)) := Lib.hid HR.out
        have HCT := HC
        have HGET : Hid ((¬ (k + 4 + widthN 4 ≤ n) → _) ∧ (k + 4 + widthN 4 ≤ n → _)) := Lib.hid ⟨fun h => hget.1 (by omega), fun h => hget.2 (by omega)⟩
        clear hget HR
        go_wp2_with fail
        refine (widths_any wr).mono ?_
        rintro e w5 ⟨rfl, hx5⟩
        have HR5 := Lib.hid (HRT.out.ext hx5)
        have HC5 := Lib.hid (HCT.out.trans (Chg.of_ext hx5))
        clear hx5
        unfold widthsV
        have hix := Try.index4 w5
        by_cases hlen : k + 4 + widthN 4 ≤ n
        · have HG := Lib.hid (HGET.out.2 hlen)
          go_wp2_with fail
          refine (get_ok B g s n (k + 4) (widthN 4) w5 HR5.out hn8 hs (by decide) hlen hB).mono ?_
          rintro e w6 ⟨rfl, hr6, hc6⟩
          have HR6 := Lib.hid hr6
          have HC6 := Lib.hid (HC5.out.trans hc6)
          clear hr6 hc6
          go_wp2_with fail
          refine (class_any (num (bitsAt s (k + 4) (widthN 4))) w6 (by have := num_lt (bitsAt s (k + 4) (widthN 4)); rw [bitsAt_length] at this; exact Nat.lt_of_lt_of_le this (by decide))).mono ?_
          rintro e w7 ⟨rfl, hx7⟩
          have HR7 := Lib.hid (HR6.out.ext hx7)
          have HC7 := Lib.hid (HC6.out.trans (Chg.of_ext hx7))
          clear hx7
          by_cases hcl : classN (num (bitsAt s (k + 4) (widthN 4))) = 4
          · have hcl2 : ((classN (num (bitsAt s (k + 4) (widthN 4))) : Int) == 4) = true := by rw [hcl]; rfl
            have hcl3 : ((classN (num (bitsAt s (k + 4) (widthN 4))) : Int) != 4) = false := by rw [hcl]; rfl
            have HG2 := Lib.hid (HG.out.2 hcl)
            clear hcl
            go_wp2_with fail
            go_ret2
            refine ⟨_, _, _, rfl, by simpa using HG2.out, _, HR7.out, by omega, by omega, ?_, HC7.out⟩
            intro _
            first | omega | (simp only [headN, widthN] <;> omega)
          · have hcl2 : ((classN (num (bitsAt s (k + 4) (widthN 4))) : Int) == 4) = false := by simp; omega
            have hcl3 : ((classN (num (bitsAt s (k + 4) (widthN 4))) : Int) != 4) = true := by simp; omega
            have HG2 := Lib.hid (HG.out.1 hcl)
            clear hcl
            go_wp2_with fail
            go_ret2
            exact ⟨_, _, _, rfl, HG2.out, _, HR7.out, by omega, by omega, fun h => absurd h (by decide), HC7.out⟩
        · have HG := Lib.hid (HGET.out.1 (by omega))
          go_wp2_with fail
          refine (get_short g s n (k + 4) (widthN 4) w5 HR5.out (by omega) hn (by decide) (by omega)).mono ?_
          rintro e w6 ⟨rfl, q6, rfl⟩
          go_wp2_with fail
          go_ret2
          exact ⟨_, _, _, rfl, HG.out, _, HR5.out, by omega, by omega, fun h => absurd h (by decide), HC5.out.drewN _⟩
end Go.Proofs.Ytpdebandcmhbcaa
