/- The document's answer: numbers, words, commands read. -/
import Derived.Test.YtdbboooblbdihaaRspM
namespace Go.Proofs.Ytdbboooblbdihaa
open Go.RowKit
set_option linter.unusedVariables false
set_option linter.unusedSectionVars false
set_option linter.unusedSimpArgs false
set_option maxRecDepth 100000


/-- What the document's number tells. -/
def tupN (l : List UInt8) : Pr Int → Value
  | .ok n l' => .tuple #[.int .i64 n, .int .i64 ((l.length - l'.length : Nat) : Int), .int .i64 0]
  | .er c => .tuple #[.int .i64 0, .int .i64 0, .int .i64 c]
theorem cons_size {s : ByteArray} {c : UInt8} {t : List UInt8} (h : s.toList = c :: t) : s.size = t.length + 1 := by rw [← size_list, h]; rfl
theorem not_emp {s : ByteArray} {c : UInt8} {t : List UInt8} (h : s.toList = c :: t) : (s.toList == []) = false := by rw [h]; rfl
theorem numG_nil (most : Nat) (minus : Bool) (k : Nat) (z : Bool) (n : Int) : numG most minus k z n [] = .er 3 := rfl
theorem numG_cons (most : Nat) (minus : Bool) (k : Nat) (z : Bool) (n : Int) (c : UInt8) (t : List UInt8) : numG most minus k z n (c :: t) = if dig c then
      if k < most ∧ (k = 0 ∨ z = false) then
        if wrap64 ((nextN minus n c).tdiv 10) = n then numG most minus (k + 1) (if k = 0 then decide (c = 48) else z) (nextN minus n c) t else .er 4
      else .er 4
    else if 0 < k then .ok n (c :: t) else .er 4 := rfl
/-- One digit more, of a few. -/
theorem next_few {j N : Nat} {c : UInt8} (hd : dig c) (hj : j < 10) (hN : N < 10 ^ j) : nextN false (N : Int) c = ((10 * N + (c.toNat - 48) : Nat) : Int) ∧ wrap64 ((nextN false (N : Int) c).tdiv 10) = (N : Int) ∧ 10 * N + (c.toNat - 48) < 10 ^ (j + 1) := by
  have h1 := hd.1
  have h2 := hd.2
  have h9 : 10 ^ j ≤ 10 ^ 9 := Nat.pow_le_pow_right (by decide) (by omega)
  have hr : in64 (sgn false (10 * N + (c.toNat - 48))) := by unfold in64; simp [sgn]; omega
  have e1 := nextN_fwd (minus := false) (M := N) (d := c.toNat - 48) (by omega) hr
  have e2 := tdiv_fwd (minus := false) (M := N) (d := c.toNat - 48) (by omega) hr
  rw [← dig_char hd] at e1
  have e1 : nextN false (N : Int) c = ((10 * N + (c.toNat - 48) : Nat) : Int) := e1
  refine ⟨e1, by rw [e1]; exact e2, ?_⟩
  rw [Nat.pow_succ]
  omega
theorem get_eq {s : ByteArray} {p : Nat} {c : UInt8} {t : List UInt8} (h : s.toList.drop p = c :: t) (hp : p < s.size) : s[p] = c := (byte_of h).2
theorem drop_cons (s : ByteArray) (k : Nat) (h : k < s.size) : ∃ c, s.toList.drop k = c :: s.toList.drop (k + 1) ∧ s[k] = c := by
  have hl : k < s.toList.length := by rw [size_list]; exact h
  have hd := List.drop_eq_getElem_cons hl
  exact ⟨_, hd, get_eq hd h⟩
theorem byte_eq48 {c x : UInt8} (h : c = x) : ((c.toNat : Int) == (x.toNat : Int)) = true := by subst h; simp
set_option maxHeartbeats 400000 in
theorem rnum_any (s : ByteArray) (x : UInt8) (most : Int) (w : World) (hz : s.size ≤ 1000000000) : Calls Try.prog 49 #[.string s, .int .u8 (x.toNat : Int), .int .i64 most] w fun e w' => e = .returned (tupN s.toList (lineP x most s.toList)) ∧ w = w' := by
  obtain ⟨F, hF⟩ : ∃ F, lineP x most s.toList = F := ⟨_, rfl⟩
  rw [hF]
  cases hs : s.toList with
  | nil =>
    obtain rfl : s = ⟨#[]⟩ := bytes_ext (by rw [hs]; exact (toList_mk []).symm)
    have hf : F = .er 3 := by rw [← hF, hs]; rfl
    subst hf
    go_enter Try.func49, Try.ntmps49
    go_wp2_with fail
    go_ret3
    exact ⟨rfl, rfl⟩
  | cons c0 t0 =>
    have hE := not_emp hs
    have hsz := cons_size hs
    have h0 : 0 < s.size := by omega
    have h0I : (0 : Int) < (s.size : Int) := by omega
    obtain ⟨_, hs0⟩ := byte_of (s := s) (p := 0) (c := c0) (t := t0) (by rw [List.drop_zero]; exact hs)
    have HS := Lib.hid hs
    rw [hs] at hF
    clear hs
    by_cases hcx : c0 = x
    · subst hcx
      have hF1 : (numG 9 false 0 false 0 t0).bind (fun n l => (endP l).bind fun _ l => if n ≤ most then Pr.ok n l else .er 13) = F := by
        rw [← hF]; unfold lineP; rw [exp_fwd]; rfl
      have HF := Lib.hid hF1
      clear hF hF1
      have hccB : ((c0.toNat : Int) != (c0.toNat : Int)) = false := by simp
      go_enter Try.func49, Try.ntmps49
      go_wp2_with fail
      obtain ⟨G, hG⟩ : ∃ G, numG 9 false 0 false 0 t0 = G := ⟨_, rfl⟩
      rw [hG] at HF
      have HG0 := Lib.hid hG
      clear hG
      go_loopw [9, 10] (fun nv kv wr => ∃ (k N : Nat) (z : Bool), nv = .int .i64 (N : Int) ∧ kv = .int .i64 (k : Int) ∧ 1 ≤ k ∧ k ≤ s.size ∧ k ≤ 10 ∧ N < 10 ^ (k - 1) ∧ (1 < k → z = decide (t0.head? = some 48)) ∧ (2 < k → z = false) ∧ numG 9 false (k - 1) z (N : Int) (s.toList.drop k) = G ∧ wr = w) (fun _ kv _ => s.size - (intOf kv).toNat)
      case atStart => exact ⟨1, 0, false, rfl, rfl, by omega, by omega, by omega, by decide, by omega, by omega, by rw [HS.out]; exact HG0.out, rfl⟩
      case round =>
        clear HG0
        obtain ⟨k, N, z, rfl, rfl, hk1, hks, hk10, hN, hz1, hz2, hG, rfl⟩ := hrel
        have HG := Lib.hid hG
        have HN := Lib.hid hN
        have HZ := Lib.hid (And.intro hz1 hz2)
        clear hG hN hz1 hz2
        by_cases hkn : k < s.size
        · obtain ⟨c, hdr, hsk⟩ := drop_cons s k hkn
          have hkI : (k : Int) < (s.size : Int) := by omega
          have hkJ : (0 : Int) ≤ (k : Int) := by omega
          have HDR := Lib.hid hdr
          have hcl := c.toNat_lt
          clear hdr
          by_cases hdg : dig c
          · have hdg1 : (48 : Int) ≤ (c.toNat : Int) := by have := hdg.1; omega
            have hdg2 : (c.toNat : Int) ≤ 57 := by have := hdg.2; omega
            have hg := HG.out
            rw [HDR.out, numG_cons, if_pos hdg] at hg
            by_cases hkt : k = 10
            · subst hkt
              rw [if_neg (by omega)] at hg
              have hf : F = .er 4 := by rw [← HF.out, ← hg]; rfl
              subst hf
              clear hg HG HF HDR HN
              go_wp2_with fail
              all_goals (
                go_ret3
                exact ⟨rfl, rfl⟩)
            · have hktB : ((k : Int) == 10) = false := by simp; omega
              obtain ⟨e1, e2, e3⟩ := next_few (j := k - 1) hdg (by omega) HN.out
              rw [e2, if_pos rfl, e1] at hg
              have hmul : (10 : Int) * (N : Int) + ((c.toNat : Int) - 48) = ((10 * N + (c.toNat - 48) : Nat) : Int) := by have := hdg.1; omega
              have hN9 : N < 1000000000 := by
                have h9 : 10 ^ (k - 1) ≤ 10 ^ 9 := Nat.pow_le_pow_right (by decide) (by omega)
                have := HN.out
                omega
              have HN3 := Lib.hid e3
              clear e1 e2 e3
              by_cases hk2 : k = 2
              · subst hk2
                obtain ⟨c1, hd1, hs1⟩ := drop_cons s 1 (by omega)
                have ht0 : t0 = c1 :: s.toList.drop 2 := by
                  have h := HS.out
                  rw [h] at hd1
                  rw [h]
                  simpa using hd1
                have hzz := HZ.out.1 (by omega)
                rw [ht0] at hzz
                by_cases h48 : c1 = 48
                · have hzt : z = true := by rw [hzz, h48]; rfl
                  rw [if_neg (by rw [hzt]; simp)] at hg
                  have hf : F = .er 4 := by rw [← HF.out, ← hg]; rfl
                  subst hf
                  have h48B : ((c1.toNat : Int) == 48) = true := byte_eq48 h48
                  have h1I : (1 : Int) < (s.size : Int) := by omega
                  clear hg HG HF HDR HN hzz hzt ht0 hd1 HZ h48
                  go_wp2_with fail
                  all_goals (
                    go_ret3
                    exact ⟨rfl, rfl⟩)
                · have hzt : z = false := by rw [hzz]; simpa using h48
                  rw [if_pos ⟨by omega, .inr hzt⟩, if_neg (by omega)] at hg
                  have h48B : ((c1.toNat : Int) == 48) = false := byte_ne h48
                  have h1I : (1 : Int) < (s.size : Int) := by omega
                  have HGN := Lib.hid hg
                  have HZT := Lib.hid (And.intro hzz hzt)
                  have HT0 := Lib.hid ht0
                  clear hg HG HDR HN hzz hzt hd1 ht0 h48
                  go_wp2_with fail
                  go_roundw
                  case rel => exact ⟨3, 10 * N + (c.toNat - 48), z, by go_num, rfl, by omega, by omega, by omega, HN3.out, fun _ => by rw [HZT.out.1, HT0.out], fun _ => HZT.out.2, HGN.out, trivial⟩
                  case measure => simp [intOf]; omega
              · have hk2B : ((k : Int) == 2) = false := by simp; omega
                by_cases hk0 : k = 1
                · subst hk0
                  rw [if_pos ⟨by omega, .inl rfl⟩, if_pos rfl] at hg
                  have HGN := Lib.hid hg
                  have hth : t0.head? = some c := by
                    have h := HDR.out
                    rw [HS.out] at h
                    have h : t0 = c :: t0.drop 1 := by simpa using h
                    rw [h]
                    rfl
                  have HTH := Lib.hid hth
                  clear hg HG HDR HN hth
                  go_wp2_with fail
                  go_roundw
                  case rel => exact ⟨2, 10 * N + (c.toNat - 48), decide (c = 48), by go_num, rfl, by omega, by omega, by omega, HN3.out, fun _ => by rw [HTH.out]; simp, by omega, HGN.out, trivial⟩
                  case measure => simp [intOf]; omega
                · have hzz := HZ.out.2 (by omega)
                  rw [if_pos ⟨by omega, .inr hzz⟩, if_neg (by omega)] at hg
                  have HGN := Lib.hid (show numG 9 false (k + 1 - 1) z ((10 * N + (c.toNat - 48) : Nat) : Int) (s.toList.drop (k + 1)) = G by rw [show k + 1 - 1 = k - 1 + 1 by omega]; exact hg)
                  have HN4 : Hid (10 * N + (c.toNat - 48) < 10 ^ (k + 1 - 1)) := by have := HN3.out; rw [show k - 1 + 1 = k + 1 - 1 by omega] at this; exact this
                  clear hg HG HDR HN HN3
                  go_wp2_with fail
                  go_roundw
                  case rel => exact ⟨k + 1, 10 * N + (c.toNat - 48), z, by go_num, by go_num, by omega, by omega, by omega, HN4.out, fun _ => HZ.out.1 (by omega), fun _ => hzz, HGN.out, trivial⟩
                  case measure => simp [intOf]; omega
          · by_cases h48 : c.toNat < 48
            · have hdg1 : ¬ (48 : Int) ≤ (c.toNat : Int) := by omega
              clear HN HZ
              by_cases hk1 : k = 1
              · subst hk1
                have hf : F = .er 4 := by rw [← HF.out, ← HG.out]; rw [HDR.out, numG_cons, if_neg hdg, if_neg (by omega)]; rfl
                subst hf
                have hkB : (((1 : Nat) : Int) == (s.size : Int)) = false := by simp; omega
                have hkC : ((1 : Int) == (s.size : Int)) = false := by simp; omega
                go_wp2_with fail
                all_goals (
                  go_ret3
                  exact ⟨rfl, rfl⟩)
              · have hf : (endP (c :: s.toList.drop (k + 1))).bind (fun _ l => if (N : Int) ≤ most then Pr.ok (N : Int) l else .er 13) = F := by rw [← HF.out, ← HG.out, HDR.out, numG_cons, if_neg hdg, if_pos (by omega)]; rfl
                have hkB : ((k : Int) == (s.size : Int)) = false := by simp; omega
                have hkC : ((k : Int) == 1) = false := by simp; omega
                by_cases h13 : c = 13
                · subst h13
                  have h13B : (((13 : UInt8).toNat : Int) != 13) = false := by decide
                  by_cases hk2 : k + 1 < s.size
                  · obtain ⟨d, hd1, hd2⟩ := drop_cons s (k + 1) hk2
                    rw [hd1] at hf
                    have hkD : ((k : Int) + 1 == (s.size : Int)) = false := by simp; omega
                    have hkE : (k : Int) + 1 < (s.size : Int) := by omega
                    have hkF : (0 : Int) ≤ (k : Int) + 1 := by omega
                    by_cases h10 : d = 10
                    · subst h10
                      have h10B : (((10 : UInt8).toNat : Int) != 10) = false := by decide
                      rw [show (13 : UInt8) :: 10 :: s.toList.drop (k + 1 + 1) = crlf ++ s.toList.drop (k + 1 + 1) from rfl, end_fwd, bind_eq] at hf
                      by_cases hm : (N : Int) ≤ most
                      · rw [if_pos hm] at hf
                        subst hf
                        have HLL : Hid (tupN (c0 :: t0) (.ok (N : Int) (s.toList.drop (k + 1 + 1))) = .tuple #[.int .i64 (N : Int), .int .i64 ((k : Int) + 2), .int .i64 0]) := Lib.hid (by
                          show Value.tuple #[.int .i64 (N : Int), .int .i64 (((c0 :: t0).length - (s.toList.drop (k + 1 + 1)).length : Nat) : Int), .int .i64 0] = _
                          rw [← HS.out, List.length_drop, size_list, show s.size - (s.size - (k + 1 + 1)) = k + 2 by omega]
                          rfl)
                        have hmB : decide (most < (N : Int)) = false := decide_eq_false (by omega)
                        clear HF HG hd1 HDR
                        go_wp2_with fail
                        all_goals (
                          go_ret3
                          rw [HLL.out]
                          exact ⟨rfl, rfl⟩)
                      · rw [if_neg hm] at hf
                        subst hf
                        have hmB : decide (most < (N : Int)) = true := decide_eq_true (by omega)
                        clear HF HG hd1 HDR
                        go_wp2_with fail
                        all_goals (
                          go_ret3
                          exact ⟨rfl, rfl⟩)
                    · have hf2 : F = .er 4 := by rw [← hf, endP_eq, exp_fwd, bind_eq, show expP 10 (d :: s.toList.drop (k + 1 + 1)) = .er 4 from if_neg h10]; rfl
                      subst hf2
                      have h10B : ((d.toNat : Int) != 10) = true := by have := byte_ne h10; simpa [bne] using this
                      clear hf HF HG hd1 HDR
                      go_wp2_with fail
                      all_goals (
                        go_ret3
                        exact ⟨rfl, rfl⟩)
                  · have he : s.toList.drop (k + 1) = [] := List.drop_of_length_le (by rw [size_list]; omega)
                    have hf2 : F = .er 3 := by rw [← hf, he, endP_eq, exp_fwd]; rfl
                    subst hf2
                    have hkD : ((k : Int) + 1 == (s.size : Int)) = true := by simp; omega
                    clear hf he HF HG HDR
                    go_wp2_with fail
                    all_goals (
                      go_ret3
                      exact ⟨rfl, rfl⟩)
                · have hf2 : F = .er 4 := by rw [← hf, endP_eq, show expP 13 (c :: s.toList.drop (k + 1)) = .er 4 from if_neg h13]; rfl
                  subst hf2
                  have h13B : ((c.toNat : Int) != 13) = true := by have := byte_ne h13; simpa [bne] using this
                  clear hf HF HG HDR
                  go_wp2_with fail
                  all_goals (
                    go_ret3
                    exact ⟨rfl, rfl⟩)
            · have hdg1 : (48 : Int) ≤ (c.toNat : Int) := by omega
              have hdg2 : ¬ (c.toNat : Int) ≤ 57 := by unfold dig at hdg; omega
              clear HN HZ
              by_cases hk1 : k = 1
              · subst hk1
                have hf : F = .er 4 := by rw [← HF.out, ← HG.out]; rw [HDR.out, numG_cons, if_neg hdg, if_neg (by omega)]; rfl
                subst hf
                have hkB : (((1 : Nat) : Int) == (s.size : Int)) = false := by simp; omega
                have hkC : ((1 : Int) == (s.size : Int)) = false := by simp; omega
                go_wp2_with fail
                all_goals (
                  go_ret3
                  exact ⟨rfl, rfl⟩)
              · have hf : (endP (c :: s.toList.drop (k + 1))).bind (fun _ l => if (N : Int) ≤ most then Pr.ok (N : Int) l else .er 13) = F := by rw [← HF.out, ← HG.out, HDR.out, numG_cons, if_neg hdg, if_pos (by omega)]; rfl
                have hkB : ((k : Int) == (s.size : Int)) = false := by simp; omega
                have hkC : ((k : Int) == 1) = false := by simp; omega
                by_cases h13 : c = 13
                · subst h13
                  have h13B : (((13 : UInt8).toNat : Int) != 13) = false := by decide
                  by_cases hk2 : k + 1 < s.size
                  · obtain ⟨d, hd1, hd2⟩ := drop_cons s (k + 1) hk2
                    rw [hd1] at hf
                    have hkD : ((k : Int) + 1 == (s.size : Int)) = false := by simp; omega
                    have hkE : (k : Int) + 1 < (s.size : Int) := by omega
                    have hkF : (0 : Int) ≤ (k : Int) + 1 := by omega
                    by_cases h10 : d = 10
                    · subst h10
                      have h10B : (((10 : UInt8).toNat : Int) != 10) = false := by decide
                      rw [show (13 : UInt8) :: 10 :: s.toList.drop (k + 1 + 1) = crlf ++ s.toList.drop (k + 1 + 1) from rfl, end_fwd, bind_eq] at hf
                      by_cases hm : (N : Int) ≤ most
                      · rw [if_pos hm] at hf
                        subst hf
                        have HLL : Hid (tupN (c0 :: t0) (.ok (N : Int) (s.toList.drop (k + 1 + 1))) = .tuple #[.int .i64 (N : Int), .int .i64 ((k : Int) + 2), .int .i64 0]) := Lib.hid (by
                          show Value.tuple #[.int .i64 (N : Int), .int .i64 (((c0 :: t0).length - (s.toList.drop (k + 1 + 1)).length : Nat) : Int), .int .i64 0] = _
                          rw [← HS.out, List.length_drop, size_list, show s.size - (s.size - (k + 1 + 1)) = k + 2 by omega]
                          rfl)
                        have hmB : decide (most < (N : Int)) = false := decide_eq_false (by omega)
                        clear HF HG hd1 HDR
                        go_wp2_with fail
                        all_goals (
                          go_ret3
                          rw [HLL.out]
                          exact ⟨rfl, rfl⟩)
                      · rw [if_neg hm] at hf
                        subst hf
                        have hmB : decide (most < (N : Int)) = true := decide_eq_true (by omega)
                        clear HF HG hd1 HDR
                        go_wp2_with fail
                        all_goals (
                          go_ret3
                          exact ⟨rfl, rfl⟩)
                    · have hf2 : F = .er 4 := by rw [← hf, endP_eq, exp_fwd, bind_eq, show expP 10 (d :: s.toList.drop (k + 1 + 1)) = .er 4 from if_neg h10]; rfl
                      subst hf2
                      have h10B : ((d.toNat : Int) != 10) = true := by have := byte_ne h10; simpa [bne] using this
                      clear hf HF HG hd1 HDR
                      go_wp2_with fail
                      all_goals (
                        go_ret3
                        exact ⟨rfl, rfl⟩)
                  · have he : s.toList.drop (k + 1) = [] := List.drop_of_length_le (by rw [size_list]; omega)
                    have hf2 : F = .er 3 := by rw [← hf, he, endP_eq, exp_fwd]; rfl
                    subst hf2
                    have hkD : ((k : Int) + 1 == (s.size : Int)) = true := by simp; omega
                    clear hf he HF HG HDR
                    go_wp2_with fail
                    all_goals (
                      go_ret3
                      exact ⟨rfl, rfl⟩)
                · have hf2 : F = .er 4 := by rw [← hf, endP_eq, show expP 13 (c :: s.toList.drop (k + 1)) = .er 4 from if_neg h13]; rfl
                  subst hf2
                  have h13B : ((c.toNat : Int) != 13) = true := by have := byte_ne h13; simpa [bne] using this
                  clear hf HF HG HDR
                  go_wp2_with fail
                  all_goals (
                    go_ret3
                    exact ⟨rfl, rfl⟩)
        · obtain rfl : k = s.size := by omega
          have hg := HG.out
          rw [List.drop_of_length_le (by rw [size_list]; omega), numG_nil] at hg
          have hf : F = .er 3 := by rw [← HF.out, ← hg]; rfl
          subst hf
          clear hg HG HF
          go_wp2_with fail
          all_goals (
            go_ret3
            exact ⟨rfl, rfl⟩)
    · have hf : F = .er 4 := by
        rw [← hF]; unfold lineP expP; simp [hcx, Pr.bind]
      subst hf
      have hccB : ((c0.toNat : Int) != (x.toNat : Int)) = true := by have := byte_ne hcx; simpa [bne] using this
      go_enter Try.func49, Try.ntmps49
      go_wp2_with fail
      go_ret3
      exact ⟨rfl, rfl⟩
end Go.Proofs.Ytdbboooblbdihaa
