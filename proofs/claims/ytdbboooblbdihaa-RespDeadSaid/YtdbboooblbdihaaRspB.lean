/- Package resp's reader walked: numbers, lines, words' bytes. -/
import Derived.Test.YtdbboooblbdihaaRspA
import Derived.Deep.LoopGhost
import Derived.Deep.CutRange
namespace Go.Proofs.Ytdbboooblbdihaa
open Go.RowKit
set_option linter.unusedVariables false
set_option linter.unusedSectionVars false
set_option linter.unusedSimpArgs false
set_option maxRecDepth 100000


def dig (c : UInt8) : Prop := 48 ≤ c.toNat ∧ c.toNat ≤ 57
instance (c : UInt8) : Decidable (dig c) := inferInstanceAs (Decidable (_ ∧ _))
def dval (minus : Bool) (c : UInt8) : Int := if minus = true then -((c.toNat : Int) - 48) else (c.toNat : Int) - 48
def nextN (minus : Bool) (n : Int) (c : UInt8) : Int := wrap64 (wrap64 (10 * n) + dval minus c)
/-- The digits: k were read, z: the first one is 0, n: the number so far. -/
def numG (most : Nat) (minus : Bool) : Nat → Bool → Int → List UInt8 → Pr Int
  | _, _, _, [] => .er 3
  | k, z, n, c :: t =>
    if dig c then
      if k < most ∧ (k = 0 ∨ z = false) then
        if wrap64 ((nextN minus n c).tdiv 10) = n then numG most minus (k + 1) (if k = 0 then decide (c = 48) else z) (nextN minus n c) t else .er 4
      else .er 4
    else if 0 < k then .ok n (c :: t) else .er 4
def intV (n : Int) : Value := .int .i64 n
set_option maxHeartbeats 4000000 in
theorem number_any (r : Nat) (s : ByteArray) (l : List UInt8) (most : Nat) (minus : Bool) (w : World) (h : Rdr w r s l) (hz : s.size ≤ 1000000000) (hm : most ≤ 100) :
    Calls Try.prog 46 #[.pointer (some ⟨r, 0, none⟩), .int .i64 (most : Int), .bool minus] w (RdOut intV r s w (numG most minus 0 false 0 l)) := by
  obtain ⟨p0, hr, hp0, hd⟩ := h
  obtain ⟨F, hF⟩ : ∃ F, numG most minus 0 false 0 l = F := ⟨_, rfl⟩
  rw [hF]
  cases l with
  | nil =>
    have hl := congrArg List.length hd
    rw [List.length_drop, size_list, List.length_nil] at hl
    have HP := Lib.hid (fun w' (hx : Ext w w') => peek_end r s p0 w' (hr.ext hx) (by omega) (by omega))
    have HH := Lib.hid hr
    have hF' : F = .er 3 := by rw [← hF]; rfl
    subst hF'
    obtain ⟨c0, c1⟩ := hr.cells
    clear hl hd hr hF
    go_enter Try.func46, Try.ntmps46
    go_wp2_with fail
    refine (HP.out w (Ext.refl w)).mono ?_
    rintro e w1 ⟨rfl, hx⟩
    exact ⟨rfl, Kp.of_ext hx, rfl, p0, HH.out.ext hx⟩
  | cons cf tf =>
    obtain ⟨hps, hsk⟩ := byte_of hd
    have hpk := peek_at r s p0 w hr hps hz
    rw [hsk] at hpk
    have HP := Lib.hid hpk
    have HH := Lib.hid hr
    have HD := Lib.hid hd
    have HF := Lib.hid hF
    obtain ⟨c0, c1⟩ := hr.cells
    clear hpk hd hr hF
    go_enter Try.func46, Try.ntmps46
    go_wp2_with fail
    refine HP.out.mono ?_
    rintro e w1 ⟨rfl, hx⟩
    have HX := Lib.hid hx
    have HH1 := Lib.hid (HH.out.ext hx)
    clear hx HP c0 c1 HH
    go_wp2_with fail
    go_loopg [8, 9] (tf.length + 1) (fun gk nv cv wr => ∃ (k : Nat) (z : Bool) (n : Int) (c : UInt8) (t : List UInt8) (p : Nat), gk = t.length + 1 ∧ nv = .int .i64 n ∧ cv = .int .u8 (c.toNat : Int) ∧ p = p0 + k ∧ k ≤ most ∧ RdrAt wr r s p ∧ s.toList.drop p = c :: t ∧ numG most minus k z n (c :: t) = F ∧ (0 < k → z = decide (cf = 48)) ∧ Kp [r] w wr)
    case atStart => exact ⟨0, false, 0, cf, tf, p0, rfl, rfl, rfl, rfl, by omega, HH1.out, HD.out, HF.out, by omega, Kp.of_ext HX.out⟩
    case round =>
      clear HH1 HD HF HX
      obtain ⟨k, z, n, c, t, p, hgk, rfl, rfl, hpp, hk100, hr, hd, hnum, hz0, hkp⟩ := hrel
      obtain ⟨hps2, hsk2⟩ := byte_of hd
      have hcl := c.toNat_lt
      have HH := Lib.hid hr
      have HD := Lib.hid (drop_next hd)
      have HDC := Lib.hid hd
      have HN := Lib.hid hnum
      have HZ := Lib.hid hz0
      have HK := Lib.hid hkp
      have HPP := Lib.hid hpp
      obtain ⟨c0, c1⟩ := hr.cells
      have f1 := heap_frozen hr 1
      have hsk3 := hsk2
      clear hd hnum hz0 hkp hr hsk2 hpp
      by_cases hdg : dig c
      · have hdg1 : (48 : Int) ≤ (c.toNat : Int) := by have := hdg.1; omega
        have hdg2 : (c.toNat : Int) ≤ 57 := by have := hdg.2; omega
        have hnm := HN.out
        unfold numG at hnm
        rw [if_pos hdg] at hnm
        by_cases hkm : k < most
        · by_cases hk0 : k = 0
          · subst hk0
            obtain rfl : p = p0 := HPP.out
            rw [if_pos ⟨hkm, .inl rfl⟩] at hnm
            have hm0 : (0 : Int) < (most : Int) := by omega
            have HCC : Hid (c = cf) := Lib.hid (by have h1 := hsk3; have h2 := hsk; rw [h1] at h2; exact h2)
            have HNM := Lib.hid hnm
            clear HN hnm hsk hsk3
            go_wp2_with fail
            refine (must_yes 4 wr).mono ?_
            rintro e _ ⟨rfl, rfl⟩
            cases minus with
            | false =>
              obtain ⟨M, hM⟩ : ∃ M, wrap64 (wrap64 (10 * n) + ((c.toNat : Int) - 48)) = M := ⟨_, rfl⟩
              have hnx : nextN false n c = M := by
                rw [← hM]
                rfl
              have hnm2 := HNM.out
              rw [hnx] at hnm2
              clear HNM hnx
              by_cases hq : wrap64 (M.tdiv 10) = n
              · have hqB : (wrap64 (M.tdiv 10) == n) = true := by simpa using hq
                rw [if_pos hq] at hnm2
                have HNM := Lib.hid hnm2
                clear hnm2 hq
                go_wp2_with fail
                refine (must_yes 4 wr).mono ?_
                rintro e _ ⟨rfl, rfl⟩
                go_wp2_with fail
                have hs : RdrAt (wr.setCell ⟨r, 1, none⟩ (.int .i64 ((p : Int) + 1))) r s (p + 1) := HH.out.set (p + 1)
                have hks : Kp [r] w (wr.setCell ⟨r, 1, none⟩ (.int .i64 ((p : Int) + 1))) := HK.out.and (Kp.store r 1 _ (by simp))
                generalize wr.setCell ⟨r, 1, none⟩ (.int .i64 ((p : Int) + 1)) = w2 at hs hks ⊢
                have HS2 := Lib.hid hs
                have HK2 := Lib.hid hks
                clear c0 c1 f1 hs hks hM hqB
                cases t with
                | nil =>
                  have hl := congrArg List.length HD.out
                  rw [List.length_drop, size_list, List.length_nil] at hl
                  have hF2 : F = .er 3 := by rw [← HNM.out]; rfl
                  subst hF2
                  refine (peek_end r s (p + 1) w2 HS2.out (by omega) (by omega)).mono ?_
                  rintro e w3 ⟨rfl, hx⟩
                  exact ⟨rfl, HK2.out.then hx, rfl, _, HS2.out.ext hx⟩
                | cons c2 t2 =>
                  obtain ⟨hps3, hsk3⟩ := byte_of HD.out
                  have hpk := peek_at r s (p + 1) w2 HS2.out hps3 hz
                  rw [hsk3] at hpk
                  refine hpk.mono ?_
                  rintro e w3 ⟨rfl, hx⟩
                  go_wp2_with fail
                  go_roundg (t2.length + 1)
                  case measure => rw [hgk]; simp
                  case rel => exact ⟨0 + 1, (decide (c = 48)), M, c2, t2, p + 1, rfl, rfl, rfl, by have := HPP.out; omega, by omega, HS2.out.ext hx, HD.out, HNM.out, fun _ => (by rw [HCC.out]), HK2.out.then hx⟩
              · have hqB : (wrap64 (M.tdiv 10) == n) = false := by simpa using hq
                rw [if_neg hq] at hnm2
                have HNM := Lib.hid hnm2
                clear hnm2 hq
                go_wp2_with fail
                refine (must_no 4 wr).mono ?_
                rintro e _ ⟨rfl, rfl⟩
                rw [← HNM.out]
                exact ⟨rfl, HK.out, rfl, p, HH.out⟩
            | true =>
              obtain ⟨M, hM⟩ : ∃ M, wrap64 (wrap64 (10 * n) + (-((c.toNat : Int) - 48))) = M := ⟨_, rfl⟩
              have hnx : nextN true n c = M := by
                rw [← hM]
                rfl
              have hnm2 := HNM.out
              rw [hnx] at hnm2
              clear HNM hnx
              by_cases hq : wrap64 (M.tdiv 10) = n
              · have hqB : (wrap64 (M.tdiv 10) == n) = true := by simpa using hq
                rw [if_pos hq] at hnm2
                have HNM := Lib.hid hnm2
                clear hnm2 hq
                go_wp2_with fail
                refine (must_yes 4 wr).mono ?_
                rintro e _ ⟨rfl, rfl⟩
                go_wp2_with fail
                have hs : RdrAt (wr.setCell ⟨r, 1, none⟩ (.int .i64 ((p : Int) + 1))) r s (p + 1) := HH.out.set (p + 1)
                have hks : Kp [r] w (wr.setCell ⟨r, 1, none⟩ (.int .i64 ((p : Int) + 1))) := HK.out.and (Kp.store r 1 _ (by simp))
                generalize wr.setCell ⟨r, 1, none⟩ (.int .i64 ((p : Int) + 1)) = w2 at hs hks ⊢
                have HS2 := Lib.hid hs
                have HK2 := Lib.hid hks
                clear c0 c1 f1 hs hks hM hqB
                cases t with
                | nil =>
                  have hl := congrArg List.length HD.out
                  rw [List.length_drop, size_list, List.length_nil] at hl
                  have hF2 : F = .er 3 := by rw [← HNM.out]; rfl
                  subst hF2
                  refine (peek_end r s (p + 1) w2 HS2.out (by omega) (by omega)).mono ?_
                  rintro e w3 ⟨rfl, hx⟩
                  exact ⟨rfl, HK2.out.then hx, rfl, _, HS2.out.ext hx⟩
                | cons c2 t2 =>
                  obtain ⟨hps3, hsk3⟩ := byte_of HD.out
                  have hpk := peek_at r s (p + 1) w2 HS2.out hps3 hz
                  rw [hsk3] at hpk
                  refine hpk.mono ?_
                  rintro e w3 ⟨rfl, hx⟩
                  go_wp2_with fail
                  go_roundg (t2.length + 1)
                  case measure => rw [hgk]; simp
                  case rel => exact ⟨0 + 1, (decide (c = 48)), M, c2, t2, p + 1, rfl, rfl, rfl, by have := HPP.out; omega, by omega, HS2.out.ext hx, HD.out, HNM.out, fun _ => (by rw [HCC.out]), HK2.out.then hx⟩
              · have hqB : (wrap64 (M.tdiv 10) == n) = false := by simpa using hq
                rw [if_neg hq] at hnm2
                have HNM := Lib.hid hnm2
                clear hnm2 hq
                go_wp2_with fail
                refine (must_no 4 wr).mono ?_
                rintro e _ ⟨rfl, rfl⟩
                rw [← HNM.out]
                exact ⟨rfl, HK.out, rfl, p, HH.out⟩
          · have hpne : ((p : Int) == (p0 : Int)) = false := by have := HPP.out; simp; omega
            have hm0 : (p : Int) - (p0 : Int) < (most : Int) := by have := HPP.out; omega
            have hzz := HZ.out (by omega)
            by_cases hcf : cf = 48
            · have hcB : ((cf.toNat : Int) != 48) = false := by rw [hcf]; rfl
              rw [if_neg (by rintro ⟨_, h | h⟩; exact hk0 h; rw [hzz, hcf] at h; simp at h)] at hnm
              have HNM := Lib.hid hnm
              clear HN hnm hcf hzz HZ
              go_wp2_with fail
              refine (must_no 4 wr).mono ?_
              rintro e _ ⟨rfl, rfl⟩
              rw [← HNM.out]
              exact ⟨rfl, HK.out, rfl, p, HH.out⟩
            · have hcB : ((cf.toNat : Int) != 48) = true := by
                have := byte_ne hcf
                simpa [bne] using this
              rw [if_pos ⟨hkm, .inr (by rw [hzz]; simpa using hcf)⟩] at hnm
              rw [if_neg hk0] at hnm
              have HNM := Lib.hid hnm
              have HZZ := Lib.hid hzz
              clear HN hnm hzz hsk3
              go_wp2_with fail
              refine (must_yes 4 wr).mono ?_
              rintro e _ ⟨rfl, rfl⟩
              cases minus with
              | false =>
                obtain ⟨M, hM⟩ : ∃ M, wrap64 (wrap64 (10 * n) + ((c.toNat : Int) - 48)) = M := ⟨_, rfl⟩
                have hnx : nextN false n c = M := by
                  rw [← hM]
                  rfl
                have hnm2 := HNM.out
                rw [hnx] at hnm2
                clear HNM hnx
                by_cases hq : wrap64 (M.tdiv 10) = n
                · have hqB : (wrap64 (M.tdiv 10) == n) = true := by simpa using hq
                  rw [if_pos hq] at hnm2
                  have HNM := Lib.hid hnm2
                  clear hnm2 hq
                  go_wp2_with fail
                  refine (must_yes 4 wr).mono ?_
                  rintro e _ ⟨rfl, rfl⟩
                  go_wp2_with fail
                  have hs : RdrAt (wr.setCell ⟨r, 1, none⟩ (.int .i64 ((p : Int) + 1))) r s (p + 1) := HH.out.set (p + 1)
                  have hks : Kp [r] w (wr.setCell ⟨r, 1, none⟩ (.int .i64 ((p : Int) + 1))) := HK.out.and (Kp.store r 1 _ (by simp))
                  generalize wr.setCell ⟨r, 1, none⟩ (.int .i64 ((p : Int) + 1)) = w2 at hs hks ⊢
                  have HS2 := Lib.hid hs
                  have HK2 := Lib.hid hks
                  clear c0 c1 f1 hs hks hM hqB
                  cases t with
                  | nil =>
                    have hl := congrArg List.length HD.out
                    rw [List.length_drop, size_list, List.length_nil] at hl
                    have hF2 : F = .er 3 := by rw [← HNM.out]; rfl
                    subst hF2
                    refine (peek_end r s (p + 1) w2 HS2.out (by omega) (by omega)).mono ?_
                    rintro e w3 ⟨rfl, hx⟩
                    exact ⟨rfl, HK2.out.then hx, rfl, _, HS2.out.ext hx⟩
                  | cons c2 t2 =>
                    obtain ⟨hps3, hsk3⟩ := byte_of HD.out
                    have hpk := peek_at r s (p + 1) w2 HS2.out hps3 hz
                    rw [hsk3] at hpk
                    refine hpk.mono ?_
                    rintro e w3 ⟨rfl, hx⟩
                    go_wp2_with fail
                    go_roundg (t2.length + 1)
                    case measure => rw [hgk]; simp
                    case rel => exact ⟨k + 1, z, M, c2, t2, p + 1, rfl, rfl, rfl, by have := HPP.out; omega, by omega, HS2.out.ext hx, HD.out, HNM.out, fun _ => HZZ.out, HK2.out.then hx⟩
                · have hqB : (wrap64 (M.tdiv 10) == n) = false := by simpa using hq
                  rw [if_neg hq] at hnm2
                  have HNM := Lib.hid hnm2
                  clear hnm2 hq
                  go_wp2_with fail
                  refine (must_no 4 wr).mono ?_
                  rintro e _ ⟨rfl, rfl⟩
                  rw [← HNM.out]
                  exact ⟨rfl, HK.out, rfl, p, HH.out⟩
              | true =>
                obtain ⟨M, hM⟩ : ∃ M, wrap64 (wrap64 (10 * n) + (-((c.toNat : Int) - 48))) = M := ⟨_, rfl⟩
                have hnx : nextN true n c = M := by
                  rw [← hM]
                  rfl
                have hnm2 := HNM.out
                rw [hnx] at hnm2
                clear HNM hnx
                by_cases hq : wrap64 (M.tdiv 10) = n
                · have hqB : (wrap64 (M.tdiv 10) == n) = true := by simpa using hq
                  rw [if_pos hq] at hnm2
                  have HNM := Lib.hid hnm2
                  clear hnm2 hq
                  go_wp2_with fail
                  refine (must_yes 4 wr).mono ?_
                  rintro e _ ⟨rfl, rfl⟩
                  go_wp2_with fail
                  have hs : RdrAt (wr.setCell ⟨r, 1, none⟩ (.int .i64 ((p : Int) + 1))) r s (p + 1) := HH.out.set (p + 1)
                  have hks : Kp [r] w (wr.setCell ⟨r, 1, none⟩ (.int .i64 ((p : Int) + 1))) := HK.out.and (Kp.store r 1 _ (by simp))
                  generalize wr.setCell ⟨r, 1, none⟩ (.int .i64 ((p : Int) + 1)) = w2 at hs hks ⊢
                  have HS2 := Lib.hid hs
                  have HK2 := Lib.hid hks
                  clear c0 c1 f1 hs hks hM hqB
                  cases t with
                  | nil =>
                    have hl := congrArg List.length HD.out
                    rw [List.length_drop, size_list, List.length_nil] at hl
                    have hF2 : F = .er 3 := by rw [← HNM.out]; rfl
                    subst hF2
                    refine (peek_end r s (p + 1) w2 HS2.out (by omega) (by omega)).mono ?_
                    rintro e w3 ⟨rfl, hx⟩
                    exact ⟨rfl, HK2.out.then hx, rfl, _, HS2.out.ext hx⟩
                  | cons c2 t2 =>
                    obtain ⟨hps3, hsk3⟩ := byte_of HD.out
                    have hpk := peek_at r s (p + 1) w2 HS2.out hps3 hz
                    rw [hsk3] at hpk
                    refine hpk.mono ?_
                    rintro e w3 ⟨rfl, hx⟩
                    go_wp2_with fail
                    go_roundg (t2.length + 1)
                    case measure => rw [hgk]; simp
                    case rel => exact ⟨k + 1, z, M, c2, t2, p + 1, rfl, rfl, rfl, by have := HPP.out; omega, by omega, HS2.out.ext hx, HD.out, HNM.out, fun _ => HZZ.out, HK2.out.then hx⟩
                · have hqB : (wrap64 (M.tdiv 10) == n) = false := by simpa using hq
                  rw [if_neg hq] at hnm2
                  have HNM := Lib.hid hnm2
                  clear hnm2 hq
                  go_wp2_with fail
                  refine (must_no 4 wr).mono ?_
                  rintro e _ ⟨rfl, rfl⟩
                  rw [← HNM.out]
                  exact ⟨rfl, HK.out, rfl, p, HH.out⟩
        · rw [if_neg (by rintro ⟨h, _⟩; exact hkm h)] at hnm
          have hm0 : ¬ (p : Int) - (p0 : Int) < (most : Int) := by have := HPP.out; omega
          have HNM := Lib.hid hnm
          clear HN hnm
          go_wp2_with fail
          refine (must_no 4 wr).mono ?_
          rintro e _ ⟨rfl, rfl⟩
          rw [← HNM.out]
          exact ⟨rfl, HK.out, rfl, p, HH.out⟩
      · have HN2 := HN.out
        unfold numG at HN2
        rw [if_neg hdg] at HN2
        have HNM := Lib.hid HN2
        clear HN2 HN hsk3
        by_cases hk0 : k = 0
        · subst hk0
          obtain rfl : p = p0 := HPP.out
          by_cases h48 : c.toNat < 48
          · have hdg1 : ¬ (48 : Int) ≤ (c.toNat : Int) := by omega
            go_wp2_with fail
            refine (must_no 4 wr).mono ?_
            rintro e _ ⟨rfl, rfl⟩
            rw [← HNM.out]
            exact ⟨rfl, HK.out, rfl, _, HH.out⟩
          · have hdg1 : (48 : Int) ≤ (c.toNat : Int) := by omega
            have hdg2 : ¬ (c.toNat : Int) ≤ 57 := by unfold dig at hdg; omega
            go_wp2_with fail
            refine (must_no 4 wr).mono ?_
            rintro e _ ⟨rfl, rfl⟩
            rw [← HNM.out]
            exact ⟨rfl, HK.out, rfl, _, HH.out⟩
        · have hlt : decide (p0 < p) = true := decide_eq_true (by have := HPP.out; omega)
          have hnm := HNM.out
          rw [if_pos (by omega)] at hnm
          have HNM2 := Lib.hid hnm
          have HDD := Lib.hid hps2
          clear hnm HNM
          by_cases h48 : c.toNat < 48
          · have hdg1 : ¬ (48 : Int) ≤ (c.toNat : Int) := by omega
            go_wp2_with fail
            refine (must_yes 4 wr).mono ?_
            rintro e _ ⟨rfl, rfl⟩
            go_wp2_with fail
            go_ret
            rw [← HNM2.out]
            exact ⟨HK.out, rfl, p, HH.out, by omega, HDC.out⟩
          · have hdg1 : (48 : Int) ≤ (c.toNat : Int) := by omega
            have hdg2 : ¬ (c.toNat : Int) ≤ 57 := by unfold dig at hdg; omega
            go_wp2_with fail
            refine (must_yes 4 wr).mono ?_
            rintro e _ ⟨rfl, rfl⟩
            go_wp2_with fail
            go_ret
            rw [← HNM2.out]
            exact ⟨HK.out, rfl, p, HH.out, by omega, HDC.out⟩
def lineP (x : UInt8) (most : Int) (l : List UInt8) : Pr Int :=
  (expP x l).bind fun _ l => (numG 9 false 0 false 0 l).bind fun n l => (endP l).bind fun _ l => if n ≤ most then .ok n l else .er 13
set_option maxHeartbeats 1000000 in
theorem line_any (r : Nat) (s : ByteArray) (l : List UInt8) (x : UInt8) (most : Int) (w : World) (h : Rdr w r s l) (hz : s.size ≤ 1000000000) :
    Calls Try.prog 31 #[.pointer (some ⟨r, 0, none⟩), .int .u8 (x.toNat : Int), .int .i64 most] w (RdOut intV r s w (lineP x most l)) := by
  have h1 := expect_any r s l x w h hz
  have HZ := Lib.hid hz
  obtain ⟨F, hF⟩ : ∃ F, lineP x most l = F := ⟨_, rfl⟩
  rw [hF]
  have HF := Lib.hid hF
  clear hF
  cases hc1 : expP x l with
  | er c =>
    have hf : F = .er c := by rw [← HF.out]; simp only [lineP, hc1, Pr.bind]
    subst hf
    have HP := Lib.hid h1
    have HC := Lib.hid hc1
    clear h1 hc1 h hz
    go_enter Try.func31, Try.ntmps31
    go_wp2_with fail
    refine (rd_er HP.out HC.out).mono ?_
    rintro e w9 ⟨rfl, hk9, q, hr9⟩
    exact ⟨rfl, hk9, rfl, q, hr9⟩
  | ok a l1 =>
    have HP := Lib.hid (rd_ok h1 hc1 _ rfl)
    have HC1 := Lib.hid hc1
    clear h1 hc1 h hz
    go_enter Try.func31, Try.ntmps31
    go_wp2_with fail
    refine HP.out.mono ?_
    rintro e w1 ⟨rfl, hk1, hr1⟩
    have h2 := number_any r s l1 9 false w1 hr1 HZ.out (by omega)
    have HK1 := Lib.hid hk1
    clear hk1 hr1 HP
    cases hc2 : numG 9 false 0 false 0 l1 with
    | er c =>
      have hf : F = .er c := by rw [← HF.out]; simp only [lineP, HC1.out, hc2, Pr.bind]
      subst hf
      have HP := Lib.hid (rd_er h2 hc2)
      clear h2 hc2
      go_wp2_with fail
      refine HP.out.mono ?_
      rintro e w9 ⟨rfl, hk9, q, hr9⟩
      exact ⟨rfl, HK1.out.and hk9, rfl, q, hr9⟩
    | ok n l2 =>
      have HP := Lib.hid (rd_ok h2 hc2 _ rfl)
      have HC2 := Lib.hid hc2
      clear h2 hc2
      go_wp2_with fail
      refine HP.out.mono ?_
      rintro e w2 ⟨rfl, hk2, hr2⟩
      have h3 := end_any r s l2 w2 hr2 HZ.out
      have HK2 := Lib.hid (HK1.out.and hk2)
      clear hk2 hr2 HP
      unfold intV
      cases hc3 : endP l2 with
      | er c =>
        have hf : F = .er c := by rw [← HF.out]; simp only [lineP, HC1.out, HC2.out, hc3, Pr.bind]
        subst hf
        have HP := Lib.hid (rd_er h3 hc3)
        clear h3 hc3
        go_wp2_with fail
        refine HP.out.mono ?_
        rintro e w9 ⟨rfl, hk9, q, hr9⟩
        exact ⟨rfl, HK2.out.and hk9, rfl, q, hr9⟩
      | ok b l3 =>
        have HP := Lib.hid (rd_ok h3 hc3 _ rfl)
        have HC3 := Lib.hid hc3
        clear h3 hc3
        go_wp2_with fail
        refine HP.out.mono ?_
        rintro e w3 ⟨rfl, hk3, hr3⟩
        have HK3 := Lib.hid (HK2.out.and hk3)
        have HR3 := Lib.hid hr3
        clear hk3 hr3 HP
        by_cases hnm : n ≤ most
        · have hf : F = .ok n l3 := by rw [← HF.out]; simp only [lineP, HC1.out, HC2.out, HC3.out, Pr.bind, if_pos hnm]
          subst hf
          go_wp2_with fail
          refine (must_yes 13 w3).mono ?_
          rintro e _ ⟨rfl, rfl⟩
          go_wp2_with fail
          go_ret
          exact ⟨HK3.out, rfl, HR3.out⟩
        · have hf : F = .er 13 := by rw [← HF.out]; simp only [lineP, HC1.out, HC2.out, HC3.out, Pr.bind, if_neg hnm]
          subst hf
          obtain ⟨q, hq, _⟩ := HR3.out
          have hnB : decide (n ≤ most) = false := decide_eq_false hnm
          go_wp2_with fail
          refine (must_no 13 w3).mono ?_
          rintro e _ ⟨rfl, rfl⟩
          exact ⟨rfl, HK3.out, rfl, q, hq⟩
def bsv (l : List UInt8) : ByteArray := ⟨l.toArray⟩
def bytesP (n : Nat) (l : List UInt8) : Pr ByteArray := if l.length < n then .er 3 else (endP (l.drop n)).bind fun _ m => .ok (bsv (l.take n)) m
def strV (s : ByteArray) : Value := .string s
set_option maxHeartbeats 1000000 in
theorem bytes_any (r : Nat) (s : ByteArray) (l : List UInt8) (n : Nat) (w : World) (h : Rdr w r s l) (hz : s.size ≤ 1000000000) (hn : n ≤ 1000000000) :
    Calls Try.prog 32 #[.pointer (some ⟨r, 0, none⟩), .int .i64 (n : Int)] w (RdOut strV r s w (bytesP n l)) := by
  obtain ⟨p, hr, hp, hd⟩ := h
  have hl := congrArg List.length hd
  rw [List.length_drop, size_list] at hl
  obtain ⟨c0, c1⟩ := hr.cells
  have f1 := heap_frozen hr 1
  obtain ⟨m, hm⟩ : ∃ m : Nat, (if (p : Int) + (n : Int) < (s.size : Int) then (p : Int) + (n : Int) else (s.size : Int)) = (m : Int) := ⟨if p + n < s.size then p + n else s.size, by split <;> split <;> omega⟩
  have hs : RdrAt (w.setCell ⟨r, 1, none⟩ (.int .i64 ((p : Int) + (n : Int)))) r s (p + n) := hr.set (p + n)
  have hks : Kp [r] w (w.setCell ⟨r, 1, none⟩ (.int .i64 ((p : Int) + (n : Int)))) := Kp.store r 1 _ (by simp)
  have HS := Lib.hid hs
  have HKS := Lib.hid hks
  have HD := Lib.hid hd
  have HL := Lib.hid hl
  obtain ⟨F, hF⟩ : ∃ F, bytesP n l = F := ⟨_, rfl⟩
  rw [hF]
  have HF := Lib.hid hF
  have HZ := Lib.hid hz
  clear hs hks hd hr hF
  go_enter Try.func32, Try.ntmps32
  go_upto_region 4 with fail
  clear c0 c1 f1
  generalize w.setCell ⟨r, 1, none⟩ (.int .i64 ((p : Int) + (n : Int))) = w1 at HS HKS ⊢
  refine wp_region_held_drew (S := fun wz => wz.cell? ⟨r, 0, none⟩ = some (.string s) ∧ wz.cell? ⟨r, 1, none⟩ = some (.int .i64 ((p : Int) + (n : Int)))) (by kernel_rfl) ⟨heap_cell HS.out 0, heap_cell HS.out 1⟩ (fun hHeld => ?_)
  have hxt : Ext w1 w1.drew := Ext.drew _
  generalize w1.drew = v1 at hxt hHeld ⊢
  have hHeld0 := hHeld
  by_cases hpn : p + n ≤ s.size
  · have hpB : decide ((p : Int) + (n : Int) ≤ (s.size : Int)) = true := decide_eq_true (by omega)
    refine' wpAnyH_take (i := 0) (oi := _) (v := _) ?hi9 ?hs9 ?hf9 ?hr9 ?hQ9 (Or.inl ⟨?hw9, ?hy9⟩) (by assumption) ?hrest9
    case hi9 => simp only [List.getElem?_toArray]; rfl
    case hs9 => kernel_rfl
    case hf9 => kernel_rfl
    case hr9 => kernel_rfl
    case hQ9 => exact fun _ _ _ h => h
    case hw9 => rfl
    case hy9 => intro w hSw; (try dsimp only at hSw); go_simp; try with_reducible rfl
    try simp only [Act.put, List.setIfInBounds_toArray, List.set_cons_zero, List.set_cons_succ]
    refine' wpAnyH_take (i := 1) (oi := _) (v := _) ?hi10 ?hs10 ?hf10 ?hr10 ?hQ10 (Or.inl ⟨?hw10, ?hy10⟩) (by assumption) ?hrest10
    case hi10 => simp only [List.getElem?_toArray]; rfl
    case hs10 => kernel_rfl
    case hf10 => kernel_rfl
    case hr10 => kernel_rfl
    case hQ10 => exact fun _ _ _ h => h
    case hw10 => rfl
    case hy10 => intro w hSw; (try dsimp only at hSw); go_simp; try with_reducible rfl
    try simp only [Act.put, List.setIfInBounds_toArray, List.set_cons_zero, List.set_cons_succ]
    refine' wpAnyH_take (i := 2) (oi := _) (v := _) ?hi11 ?hs11 ?hf11 ?hr11 ?hQ11 (Or.inl ⟨?hw11, ?hy11⟩) (by assumption) ?hrest11
    case hi11 => simp only [List.getElem?_toArray]; rfl
    case hs11 => kernel_rfl
    case hf11 => kernel_rfl
    case hr11 => kernel_rfl
    case hQ11 => exact fun _ _ _ h => h
    case hw11 => rfl
    case hy11 => intro w hSw; (try dsimp only at hSw); go_simp; try with_reducible rfl
    try simp only [Act.put, List.setIfInBounds_toArray, List.set_cons_zero, List.set_cons_succ]
    refine' wpAnyH_take (i := 3) (oi := _) (v := _) ?hi12 ?hs12 ?hf12 ?hr12 ?hQ12 (Or.inl ⟨?hw12, ?hy12⟩) (by assumption) ?hrest12
    case hi12 => simp only [List.getElem?_toArray]; rfl
    case hs12 => kernel_rfl
    case hf12 => kernel_rfl
    case hr12 => kernel_rfl
    case hQ12 => exact fun _ _ _ h => h
    case hw12 => rfl
    case hy12 => intro w hSw; (try dsimp only at hSw); go_simp; try with_reducible rfl
    try simp only [Act.put, List.setIfInBounds_toArray, List.set_cons_zero, List.set_cons_succ]
    refine' wpAnyH_take (i := 4) (oi := _) (v := _) ?hi13 ?hs13 ?hf13 ?hr13 ?hQ13 (Or.inl ⟨?hw13, ?hy13⟩) (by assumption) ?hrest13
    case hi13 => simp only [List.getElem?_toArray]; rfl
    case hs13 => kernel_rfl
    case hf13 => kernel_rfl
    case hr13 => kernel_rfl
    case hQ13 => exact fun _ _ _ h => h
    case hw13 => rfl
    case hy13 => intro w hSw; (try dsimp only at hSw); go_simp; try with_reducible rfl
    try simp only [Act.put, List.setIfInBounds_toArray, List.set_cons_zero, List.set_cons_succ]
    refine' wpAnyH_take (i := 5) (oi := _) (v := _) ?hi14 ?hs14 ?hf14 ?hr14 ?hQ14 (Or.inl ⟨?hw14, ?hy14⟩) (by assumption) ?hrest14
    case hi14 => simp only [List.getElem?_toArray]; rfl
    case hs14 => kernel_rfl
    case hf14 => kernel_rfl
    case hr14 => kernel_rfl
    case hQ14 => exact fun _ _ _ h => h
    case hw14 => rfl
    case hy14 => intro w hSw; (try dsimp only at hSw); go_simp; try with_reducible rfl
    try simp only [Act.put, List.setIfInBounds_toArray, List.set_cons_zero, List.set_cons_succ]
    refine' wpAnyH_take (i := 6) (oi := _) (v := _) ?hi15 ?hs15 ?hf15 ?hr15 ?hQ15 (Or.inl ⟨?hw15, ?hy15⟩) (by assumption) ?hrest15
    case hi15 => simp only [List.getElem?_toArray]; rfl
    case hs15 => kernel_rfl
    case hf15 => kernel_rfl
    case hr15 => kernel_rfl
    case hQ15 => exact fun _ _ _ h => h
    case hw15 => rfl
    case hy15 => intro w hSw; (try dsimp only at hSw); go_simp; try with_reducible rfl
    try simp only [Act.put, List.setIfInBounds_toArray, List.set_cons_zero, List.set_cons_succ]
    refine' wpAnyH_take (i := 7) (oi := _) (v := _) ?hi16 ?hs16 ?hf16 ?hr16 ?hQ16 (Or.inl ⟨?hw16, ?hy16⟩) (by assumption) ?hrest16
    case hi16 => simp only [List.getElem?_toArray]; rfl
    case hs16 => kernel_rfl
    case hf16 => kernel_rfl
    case hr16 => kernel_rfl
    case hQ16 => exact fun _ _ _ h => h
    case hw16 => rfl
    case hy16 => intro w hSw; (try dsimp only at hSw); go_simp; try with_reducible rfl
    try simp only [Act.put, List.setIfInBounds_toArray, List.set_cons_zero, List.set_cons_succ]
    refine' wpAnyH_take (i := 8) (oi := _) (v := _) ?hi17 ?hs17 ?hf17 ?hr17 ?hQ17 (Or.inl ⟨?hw17, ?hy17⟩) (by assumption) ?hrest17
    case hi17 => simp only [List.getElem?_toArray]; rfl
    case hs17 => kernel_rfl
    case hf17 => kernel_rfl
    case hr17 => kernel_rfl
    case hQ17 => exact fun _ _ _ h => h
    case hw17 => rfl
    case hy17 => intro w hSw; (try dsimp only at hSw); go_simp; try with_reducible rfl
    try simp only [Act.put, List.setIfInBounds_toArray, List.set_cons_zero, List.set_cons_succ]
    refine' wpAnyH_take (i := 9) (oi := _) (v := _) ?hi18 ?hs18 ?hf18 ?hr18 ?hQ18 (Or.inl ⟨?hw18, ?hy18⟩) (by assumption) ?hrest18
    case hi18 => simp only [List.getElem?_toArray]; rfl
    case hs18 => kernel_rfl
    case hf18 => kernel_rfl
    case hr18 => kernel_rfl
    case hQ18 => exact fun _ _ _ h => h
    case hw18 => rfl
    case hy18 => intro w hSw; (try dsimp only at hSw); go_simp; try with_reducible rfl
    try simp only [Act.put, List.setIfInBounds_toArray, List.set_cons_zero, List.set_cons_succ]
    refine wpAnyH_ready (rs := [10]) (by kernel_rfl) (by simp) ?_
    refine' AllReadyH.cons (o := _) ?ho19 (fun K hK => ?hstep19) AllReadyH.nil
    case ho19 => simp only [List.getElem?_toArray]; rfl
    go_simp
    refine (must_yes 3 v1).mono ?_
    rintro e _ ⟨rfl, rfl⟩
    refine hK.out _ _ (hHeld0) (fun hHeld => ?_)
    clear hK K
    try simp only [Act.put, List.setIfInBounds_toArray, List.set_cons_zero, List.set_cons_succ]
    refine wpAnyH_done (by kernel_rfl) ?_ _
    have hrd : Rdr v1 r s (l.drop n) := ⟨p + n, HS.out.ext hxt, hpn, by rw [← HD.out, List.drop_drop]⟩
    have h3 := end_any r s (l.drop n) v1 hrd HZ.out
    have HK1 := Lib.hid (HKS.out.then hxt)
    have hlt : ¬ l.length < n := by omega
    clear hrd hHeld hHeld0 hxt
    cases hc3 : endP (l.drop n) with
    | er c =>
      have hf : F = .er c := by rw [← HF.out]; simp only [bytesP, if_neg hlt, hc3, Pr.bind]
      subst hf
      have HP := Lib.hid (rd_er h3 hc3)
      clear h3 hc3
      go_wp2_with fail
      refine HP.out.mono ?_
      rintro e w9 ⟨rfl, hk9, q, hr9⟩
      exact ⟨rfl, HK1.out.and hk9, rfl, q, hr9⟩
    | ok b l3 =>
      have hf : F = .ok (bsv (l.take n)) l3 := by rw [← HF.out]; simp only [bytesP, if_neg hlt, hc3, Pr.bind]
      subst hf
      have HP := Lib.hid (rd_ok h3 hc3 _ rfl)
      clear h3 hc3
      go_wp2_with fail
      refine HP.out.mono ?_
      rintro e w3 ⟨rfl, hk3, hr3⟩
      have HK3 := Lib.hid (HK1.out.and hk3)
      have HR3 := Lib.hid hr3
      obtain ⟨q, hq, _⟩ := hr3
      obtain ⟨c0, c1⟩ := hq.cells
      have hmv : m = p + n := by
        by_cases hh : p + n < s.size
        · rw [if_pos (by omega)] at hm; omega
        · rw [if_neg (by omega)] at hm; omega
      have hsl : (0 : Int) ≤ (p : Int) ∧ (p : Int) ≤ (m : Int) ∧ (m : Int) ≤ (s.size : Int) := by omega
      have hsl2 : p ≤ m ∧ m ≤ s.size := by omega
      have hex : Hid (s.extract p m = bsv (l.take n)) := Lib.hid (by
        apply bytes_ext
        unfold bsv
        rw [toList_mk, ← HD.out, hmv, Lib.toList_data, Lib.toList_data]
        simp)
      clear hk3 hq hmv hm
      go_wp2_with fail
      go_ret
      rw [hex.out]
      exact ⟨HK3.out, rfl, HR3.out⟩
  · have hpB : decide ((p : Int) + (n : Int) ≤ (s.size : Int)) = false := decide_eq_false (by omega)
    have hf : F = .er 3 := by rw [← HF.out]; simp only [bytesP, if_pos (show l.length < n by omega)]
    subst hf
    refine' wpAnyH_take (i := 0) (oi := _) (v := _) ?hi22 ?hs22 ?hf22 ?hr22 ?hQ22 (Or.inl ⟨?hw22, ?hy22⟩) (by assumption) ?hrest22
    case hi22 => simp only [List.getElem?_toArray]; rfl
    case hs22 => kernel_rfl
    case hf22 => kernel_rfl
    case hr22 => kernel_rfl
    case hQ22 => exact fun _ _ _ h => h
    case hw22 => rfl
    case hy22 => intro w hSw; (try dsimp only at hSw); go_simp; try with_reducible rfl
    try simp only [Act.put, List.setIfInBounds_toArray, List.set_cons_zero, List.set_cons_succ]
    refine' wpAnyH_take (i := 1) (oi := _) (v := _) ?hi23 ?hs23 ?hf23 ?hr23 ?hQ23 (Or.inl ⟨?hw23, ?hy23⟩) (by assumption) ?hrest23
    case hi23 => simp only [List.getElem?_toArray]; rfl
    case hs23 => kernel_rfl
    case hf23 => kernel_rfl
    case hr23 => kernel_rfl
    case hQ23 => exact fun _ _ _ h => h
    case hw23 => rfl
    case hy23 => intro w hSw; (try dsimp only at hSw); go_simp; try with_reducible rfl
    try simp only [Act.put, List.setIfInBounds_toArray, List.set_cons_zero, List.set_cons_succ]
    refine' wpAnyH_take (i := 2) (oi := _) (v := _) ?hi24 ?hs24 ?hf24 ?hr24 ?hQ24 (Or.inl ⟨?hw24, ?hy24⟩) (by assumption) ?hrest24
    case hi24 => simp only [List.getElem?_toArray]; rfl
    case hs24 => kernel_rfl
    case hf24 => kernel_rfl
    case hr24 => kernel_rfl
    case hQ24 => exact fun _ _ _ h => h
    case hw24 => rfl
    case hy24 => intro w hSw; (try dsimp only at hSw); go_simp; try with_reducible rfl
    try simp only [Act.put, List.setIfInBounds_toArray, List.set_cons_zero, List.set_cons_succ]
    refine' wpAnyH_take (i := 3) (oi := _) (v := _) ?hi25 ?hs25 ?hf25 ?hr25 ?hQ25 (Or.inl ⟨?hw25, ?hy25⟩) (by assumption) ?hrest25
    case hi25 => simp only [List.getElem?_toArray]; rfl
    case hs25 => kernel_rfl
    case hf25 => kernel_rfl
    case hr25 => kernel_rfl
    case hQ25 => exact fun _ _ _ h => h
    case hw25 => rfl
    case hy25 => intro w hSw; (try dsimp only at hSw); go_simp; try with_reducible rfl
    try simp only [Act.put, List.setIfInBounds_toArray, List.set_cons_zero, List.set_cons_succ]
    refine' wpAnyH_take (i := 4) (oi := _) (v := _) ?hi26 ?hs26 ?hf26 ?hr26 ?hQ26 (Or.inl ⟨?hw26, ?hy26⟩) (by assumption) ?hrest26
    case hi26 => simp only [List.getElem?_toArray]; rfl
    case hs26 => kernel_rfl
    case hf26 => kernel_rfl
    case hr26 => kernel_rfl
    case hQ26 => exact fun _ _ _ h => h
    case hw26 => rfl
    case hy26 => intro w hSw; (try dsimp only at hSw); go_simp; try with_reducible rfl
    try simp only [Act.put, List.setIfInBounds_toArray, List.set_cons_zero, List.set_cons_succ]
    refine' wpAnyH_take (i := 5) (oi := _) (v := _) ?hi27 ?hs27 ?hf27 ?hr27 ?hQ27 (Or.inl ⟨?hw27, ?hy27⟩) (by assumption) ?hrest27
    case hi27 => simp only [List.getElem?_toArray]; rfl
    case hs27 => kernel_rfl
    case hf27 => kernel_rfl
    case hr27 => kernel_rfl
    case hQ27 => exact fun _ _ _ h => h
    case hw27 => rfl
    case hy27 => intro w hSw; (try dsimp only at hSw); go_simp; try with_reducible rfl
    try simp only [Act.put, List.setIfInBounds_toArray, List.set_cons_zero, List.set_cons_succ]
    refine' wpAnyH_take (i := 6) (oi := _) (v := _) ?hi28 ?hs28 ?hf28 ?hr28 ?hQ28 (Or.inl ⟨?hw28, ?hy28⟩) (by assumption) ?hrest28
    case hi28 => simp only [List.getElem?_toArray]; rfl
    case hs28 => kernel_rfl
    case hf28 => kernel_rfl
    case hr28 => kernel_rfl
    case hQ28 => exact fun _ _ _ h => h
    case hw28 => rfl
    case hy28 => intro w hSw; (try dsimp only at hSw); go_simp; try with_reducible rfl
    try simp only [Act.put, List.setIfInBounds_toArray, List.set_cons_zero, List.set_cons_succ]
    refine' wpAnyH_take (i := 7) (oi := _) (v := _) ?hi29 ?hs29 ?hf29 ?hr29 ?hQ29 (Or.inl ⟨?hw29, ?hy29⟩) (by assumption) ?hrest29
    case hi29 => simp only [List.getElem?_toArray]; rfl
    case hs29 => kernel_rfl
    case hf29 => kernel_rfl
    case hr29 => kernel_rfl
    case hQ29 => exact fun _ _ _ h => h
    case hw29 => rfl
    case hy29 => intro w hSw; (try dsimp only at hSw); go_simp; try with_reducible rfl
    try simp only [Act.put, List.setIfInBounds_toArray, List.set_cons_zero, List.set_cons_succ]
    refine' wpAnyH_take (i := 8) (oi := _) (v := _) ?hi30 ?hs30 ?hf30 ?hr30 ?hQ30 (Or.inl ⟨?hw30, ?hy30⟩) (by assumption) ?hrest30
    case hi30 => simp only [List.getElem?_toArray]; rfl
    case hs30 => kernel_rfl
    case hf30 => kernel_rfl
    case hr30 => kernel_rfl
    case hQ30 => exact fun _ _ _ h => h
    case hw30 => rfl
    case hy30 => intro w hSw; (try dsimp only at hSw); go_simp; try with_reducible rfl
    try simp only [Act.put, List.setIfInBounds_toArray, List.set_cons_zero, List.set_cons_succ]
    refine' wpAnyH_take (i := 9) (oi := _) (v := _) ?hi31 ?hs31 ?hf31 ?hr31 ?hQ31 (Or.inl ⟨?hw31, ?hy31⟩) (by assumption) ?hrest31
    case hi31 => simp only [List.getElem?_toArray]; rfl
    case hs31 => kernel_rfl
    case hf31 => kernel_rfl
    case hr31 => kernel_rfl
    case hQ31 => exact fun _ _ _ h => h
    case hw31 => rfl
    case hy31 => intro w hSw; (try dsimp only at hSw); go_simp; try with_reducible rfl
    try simp only [Act.put, List.setIfInBounds_toArray, List.set_cons_zero, List.set_cons_succ]
    refine wpAnyH_ready (rs := [10]) (by kernel_rfl) (by simp) ?_
    refine' AllReadyH.cons (o := _) ?ho32 (fun K hK => ?hstep32) AllReadyH.nil
    case ho32 => simp only [List.getElem?_toArray]; rfl
    go_simp
    refine (must_no 3 v1).mono ?_
    rintro e _ ⟨rfl, rfl⟩
    exact ⟨rfl, HKS.out.then hxt, rfl, _, HS.out.ext hxt⟩
end Go.Proofs.Ytdbboooblbdihaa
