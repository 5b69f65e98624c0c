/- The document's Decode, walked. -/
import Derived.Test.YtpdebandcmhbcaaDecA
import Derived.Deep.CutRange
namespace Go.Proofs.Ytpdebandcmhbcaa
open Go.RowKit Bit
set_option linter.unusedVariables false

section
variable {s : ByteArray} {n : Nat}
theorem run_last : ∀ k, (runS s n k).1.x.e = 0 → (runS s n k).2.length = k ∧ ∀ j, k = j + 1 → (runS s n k).2[j]? = some ((runS s n k).1.x.t, (runS s n k).1.x.v)
  | 0, _ => ⟨rfl, fun j h => by omega⟩
  | k + 1, he => by
    have he0 : (runS s n k).1.x.e = 0 := by
      by_cases h : (runS s n k).1.x.e = 0
      · exact h
      · rw [runS, if_pos h] at he
        exact absurd he h
    obtain ⟨h1, _⟩ := run_last k he0
    rw [runS, if_neg (by simpa using he0)]
    refine ⟨by simp [h1], fun j hj => ?_⟩
    obtain rfl : j = k := by omega
    simp only
    rw [List.getElem?_append_right (by omega), h1, Nat.sub_self]
    rfl
theorem run_le (k : Nat) (he : (runS s n k).1.x.e = 0) : (runS s n k).1.k ≤ n := by
  obtain ⟨pos, t, v, step, h1, h2, _⟩ := run_dec s n k he
  rw [h1]
  exact h2
theorem firstS_bad {d : DS} (he : d.x.e = 0) (hk : ¬ d.k + 128 ≤ n) : (firstS s n d).x.e = 3 := by
  by_cases h1 : d.k + 64 ≤ n
  · unfold firstS plainS plainR
    simp [he, h1]
    rw [if_neg (by omega)]
  · unfold firstS plainS plainR
    simp [he, h1]
theorem laterS_bad1 {d : DS} {u m : Nat} {y : Int} (he : d.x.e = 0) (h : getB (bitsAt s d.k (n - d.k)) = (u, m, y)) (hy : y ≠ 0) : (laterS s n d).x.e = y := by
  have e1 := codedS_err he h
  have hme : (midS s n d).x.e = y := by unfold midS; exact e1
  unfold laterS
  have h3 : codedS s n (midS s n d) = (0, midS s n d) := by
    unfold codedS
    rw [if_pos (by rw [hme]; exact hy)]
  rw [h3]
  exact hme
theorem laterS_bad2 {d : DS} {u m u2 m2 : Nat} {y : Int} (he : d.x.e = 0) (h : getB (bitsAt s d.k (n - d.k)) = (u, m, 0)) (h2 : getB (bitsAt s (d.k + m) (n - (d.k + m))) = (u2, m2, y)) : (laterS s n d).x.e = y := by
  have e1 := codedS_err he h
  have hc := codedS_eq he h
  have hme : (midS s n d).x.e = 0 := by unfold midS; exact e1
  have hmk : (midS s n d).k = d.k + m := by unfold midS; rw [hc]
  have h3 := codedS_err (s := s) (n := n) (d := midS s n d) (u := u2) (m := m2) (y := y) hme (by rw [hmk]; exact h2)
  unfold laterS
  exact h3
theorem run_bad {k many : Nat} (hk : k < many) (he : (runS s n k).1.x.e = 0) {y : Int} (hy : y ≠ 0) (hn : (if k = 0 then firstS s n (runS s n k).1 else laterS s n (runS s n k).1).x.e = y) : decR s n many = ([], y) := by
  have h1 : (runS s n (k + 1)).1.x.e = y := by
    rw [runS, if_neg (by simpa using he)]
    exact hn
  have h2 := runS_stop s n (k + 1) (by rw [h1]; exact hy) (many - (k + 1))
  rw [show k + 1 + (many - (k + 1)) = many by omega] at h2
  unfold decR
  rw [h2, if_pos (by rw [h1]; exact hy), h1]
theorem step_of (k : Nat) (t v s e : Int) : s = (DS.mk k (SV.mk t v s e)).x.step := rfl
theorem run_one {k : Nat} {d d' : DS} {out : List Smp} (h : runS s n k = (d, out)) (hk : k = 0) (he : d.x.e = 0) (hf : firstS s n d = d') : runS s n (k + 1) = (d', out ++ [(d'.x.t, d'.x.v)]) := by
  rw [runS, if_neg (by rw [h]; simpa using he), if_pos hk, h, hf]
theorem run_two {k : Nat} {d d' : DS} {out : List Smp} (h : runS s n k = (d, out)) (hk : ¬ k = 0) (he : d.x.e = 0) (hf : laterS s n d = d') : runS s n (k + 1) = (d', out ++ [(d'.x.t, d'.x.v)]) := by
  rw [runS, if_neg (by rw [h]; simpa using he), if_neg hk, h, hf]
theorem getB_le {l : List Bool} {u m : Nat} {y : Int} (h : getB l = (u, m, y)) : m ≤ l.length := by
  rcases get_err h with ⟨_, h1, _⟩ | ⟨_, rfl, _⟩
  · exact h1
  · exact Nat.zero_le _
theorem bits_tail (s : ByteArray) (a m j : Nat) (hj : j ≤ m) : (bitsAt s a m).drop j = bitsAt s (a + j) (m - j) := bitsAt_drop _ _ _ _ hj
end
section
variable {w : World} {B : Option Addr} {s : ByteArray} {a n : Nat}
theorem cut_bits_upto {k : Nat} (h : Rd w B (((bitsAt s a n).map Value.bool).take (k * 1))) (hk : k ≤ n) : Rd w B ((bitsAt s a k).map .bool) := by
  rw [Nat.mul_one, ← List.map_take] at h
  have e := bitsAt_cut s a n 0 k (by omega)
  rw [List.drop_zero, Nat.add_zero] at e
  rw [← e]
  exact h
theorem cut_bits_mid {i k : Nat} (h : Rd w B ((((bitsAt s a n).map Value.bool).drop (i * 1)).take ((k - i) * 1))) (hk : i + (k - i) ≤ n) : Rd w B ((bitsAt s (a + i) (k - i)).map .bool) := by
  rw [Nat.mul_one, Nat.mul_one, ← List.map_drop, ← List.map_take] at h
  rw [← bitsAt_cut s a n i (k - i) hk]
  exact h
theorem cut_bits_from {k m : Nat} (h : Rd w B (((bitsAt s a (m - a)).map Value.bool).drop (k * 1))) (hk : a + k ≤ m) : Rd w B ((bitsAt s (a + k) (m - (a + k))).map .bool) := by
  rw [Nat.mul_one, ← List.map_drop] at h
  have e := bitsAt_drop s a (m - a) k (by omega)
  rw [show m - a - k = m - (a + k) by omega] at e
  rw [← e]
  exact h
end
set_option maxRecDepth 100000 in
set_option maxHeartbeats 8000000 in
theorem rDec_any (v : Value) (s : ByteArray) (n many : Nat) (w : World) (h : Boo w v (bitsAt s 0 n)) (hn : n ≤ 8 * s.size) (hs : s.size ≤ 4294967296) (hmany : many ≤ 100000) :
    Calls Try.prog 23 #[v, .int .i64 (many : Int)] w fun e w' => ∃ u, e = .returned (.tuple #[u, .int .i64 (decR s n many).2]) ∧ Row smpC w' u (decR s n many).1 ∧ Ext w w' := by
  obtain ⟨i0, hi0, hz0, hz1, hz2⟩ := info_parts Try.boolInfo
  obtain ⟨i1, hi1, hz3, hz4, hz5⟩ := info_parts Try.smpInfo
  have HV := Lib.hid h
  clear h
  go_enter Try.func23, Try.ntmps23
  go_wp2_with fail
  go_loopw [6, 7, 8, 9] (fun o r st i wr => ∃ (k : Nat) (d : DS) (out : List Smp), k ≤ many ∧ i = .int .i64 (k : Int) ∧ Hid (runS s n k = (d, out)) ∧ d.x.e = 0 ∧ (∃ S : Int, st = .int .i64 S ∧ Hid (S = d.x.step)) ∧ wr.ownsRow w.heap.size 59 2 o out.length (out.flatMap smpC) ∧ Boo w r (bitsAt s d.k (n - d.k)) ∧ Ext w wr) (fun _ _ _ i _ => many - (intOf i).toNat)
  case atStart => exact ⟨0, ⟨0, ⟨0, 0, 0, 0⟩⟩, [], by omega, rfl, Lib.hid rfl, rfl, ⟨0, rfl, Lib.hid rfl⟩, World.ownsRow_nil _ _ _ _, HV.out, Ext.refl _⟩
  case round =>
    obtain ⟨k, d, out, hk, rfl, HR0, he, ⟨S0, rfl, HS0⟩, hown, hboo, hx⟩ := hrel
    obtain ⟨A, r, c, rfl, hrl, hrc, hcm, hrd⟩ := hboo
    rw [bitsAt_length] at hrl
    have hc' : c ≤ 9223372036854775807 := by simpa [maxLen] using hcm
    have HLE := Lib.hid (by have := run_le (s := s) (n := n) k (by rw [HR0.out]; exact he); rw [HR0.out] at this; exact this : d.k ≤ n)
    have HLA := Lib.hid (by have := run_last (s := s) (n := n) k (by rw [HR0.out]; exact he); rw [HR0.out] at this; exact this : out.length = k ∧ ∀ j, k = j + 1 → out[j]? = some (d.x.t, d.x.v))
    have he' : (runS s n k).1.x.e = 0 := by rw [HR0.out]; exact he
    have HE' := Lib.hid he'
    clear he'
    have HE := Lib.hid he
    have HRL := Lib.hid hrl
    have HRD := Lib.hid hrd
    have HO := Lib.hid hown
    have HX := Lib.hid hx
    have hrlen : ((bitsAt s d.k (n - d.k)).map Value.bool).length = r * 1 := by rw [List.length_map, bitsAt_length, hrl, Nat.mul_one]
    have HRE := Lib.hid hrlen
    clear he hrl hrd hown hx hrlen
    by_cases hkm : k < many
    · have hkI : (k : Int) < (many : Int) := by omega
      have HXE := HX
      rcases Nat.eq_zero_or_pos k with hk0 | hk0
      · have hz : ((k : Int) == 0) = true := by rw [hk0]; rfl
        have HK0 := Lib.hid hk0
        clear hk0
        by_cases h128 : 128 ≤ r
        · have hI : (128 : Int) ≤ (r : Int) := by omega
          obtain ⟨p2, hp2⟩ : ∃ p2, d.k + 128 = p2 := ⟨_, rfl⟩
          have HF := Lib.hid (firstS_eq (s := s) (n := n) (d := d) HE.out (by have := HRL.out; omega))
          rw [hp2] at HF
          obtain ⟨B1, hB1, hs1⟩ := cut_upto (P := Try.prog) 31 4 i0 1 Try.underlying31 hi0 hz1 HRD.out hrc 64 64 rfl (by omega)
          obtain ⟨B2, hB2, hs2⟩ := cut_mid (P := Try.prog) 31 4 i0 1 Try.underlying31 hi0 hz1 HRD.out HRE.out hrc 64 128 64 128 rfl rfl (by decide) (by omega)
          obtain ⟨B3, hB3, hs3⟩ := cut_from (P := Try.prog) 31 4 i0 1 Try.underlying31 hi0 hz1 HRD.out HRE.out hrc 128 128 rfl (by omega)
          have q1 := cut_bits_upto hB1 (by have := HRL.out; omega)
          have q2 := cut_bits_mid hB2 (by have := HRL.out; omega)
          have q3 := cut_bits_from hB3 (by have := HRL.out; omega)
          have hs2' : ∀ w', (Instr.slice 31 (.slice A r c) (some (.int .i64 64)) (some (.int .i64 128)) none).run Try.prog w' = .ok (.slice B2 64 (c - 64)) w' := hs2
          rw [hp2] at q3
          have Q1 := Lib.hid q1
          have Q2 := Lib.hid q2
          have HP2 := Lib.hid hp2
          clear hp2
          have Q3 := Lib.hid q3
          clear hB1 hB2 hB3 hs2 q1 q2 q3
          have e1 : IntKind.i64.wrap ((num (bitsAt s d.k 64) : Nat) : Int) = wrap64 ((num (bitsAt s d.k 64) : Nat) : Int) := IntWalk.i64_left _
          have e2 : IntKind.i64.wrap ((num (bitsAt s (d.k + 64) 64) : Nat) : Int) = wrap64 ((num (bitsAt s (d.k + 64) 64) : Nat) : Int) := IntWalk.i64_left _
          have HRUN := Lib.hid (run_one HR0.out HK0.out HE.out HF.out)
          generalize hT : wrap64 ((num (bitsAt s d.k 64) : Nat) : Int) = T at e1 HF HRUN
          generalize hU : wrap64 ((num (bitsAt s (d.k + 64) 64) : Nat) : Int) = U at e2 HF HRUN
          clear hT hU
          have hx6 : Ext wr (wr.alloc (.cells #[.int .i64 T, .int .i64 U] 59)).drew := (Ext.alloc _ _).trans (Ext.drew _)
          go_upto_region 10 with fail
          go_cut [6] from 17 to 90 (fun s6 wx => wx.ownsRow w.heap.size 59 2 s6 (out ++ [(T, U)]).length ((out ++ [(T, U)]).flatMap smpC) ∧ Ext w wx)
          case first =>
            go_region_held3 (fun _ => True) (trivial) (first
              | (go_at_call_of 37 B1; refine (rNumber_any _ (bitsAt s d.k 64) _ ⟨B1, 64, c, rfl, bitsAt_length _ _ _, by omega, by simp only [maxLen] at *; omega, Q1.out.ext (HX.out.trans (Ext.drewN _ _))⟩ (by rw [bitsAt_length]; decide)).mono ?_; rintro e _ ⟨rfl, rfl⟩)
              | (go_at_call_of 37 B2; refine (rNumber_any _ (bitsAt s (d.k + 64) 64) _ ⟨B2, 64, c - 64, rfl, bitsAt_length _ _ _, by omega, by simp only [maxLen] at *; omega, Q2.out.ext (HX.out.trans (Ext.drewN _ _))⟩ (by rw [bitsAt_length]; decide)).mono ?_; rintro e _ ⟨rfl, rfl⟩)
              | (refine step_row smpC_len smpC_one _ rfl (.tmp 27) (.tmp 37) 23 59 rfl i1 (.agg #[.int .i64 0, .int .i64 0]) 16 Try.underlying23 hi1 hz3 hz4 hz5 rfl (by decide) (by decide) w.heap.size _ out rfl (by exact own_later HO.out hx6) (Nat.le_trans HX.out.size hx6.size) (some ⟨wr.heap.size, 0, none⟩) 1 1 [(T, U)] rfl rfl (by exact (Rd.new wr #[_, _] 59).ext (Ext.drew _)) (by rw [(HLA.out).1]; simp only [List.length_singleton]; omega) ?_
                 intro v7 w7 hown7 hchg7
                 have HX7 := Lib.hid (((Chg.of_ext (HX.out.trans hx6)).trans hchg7).to_ext (Nat.le_refl _))
                 have HO7 := Lib.hid hown7
                 clear hchg7 hown7))
            all_goals
              go_wp2_with fail
              go_meet
              exact ⟨HO7.out, HX7.out⟩
          case rest =>
            obtain ⟨hown7, hx7⟩ := hcut
            have HO7 := Lib.hid hown7
            have HX7 := Lib.hid hx7
            clear hown7 hx7
            go_wp2_with fail
            go_roundw
            case rel => exact ⟨k + 1, ⟨p2, ⟨T, U, d.x.step, 0⟩⟩, _, by omega, by go_num, HRUN, rfl, ⟨S0, rfl, Lib.hid (HS0.out.trans (step_of p2 T U d.x.step 0))⟩, HO7.out, ⟨B3, r - 128, c - 128, rfl, by rw [bitsAt_length]; have := HRL.out; have := HP2.out; dsimp only; omega, by omega, by simp only [maxLen] at *; omega, Q3.out⟩, HX7.out⟩
            case measure => simp [intOf]; omega
        · have hI : (r : Int) < 128 := by omega
          have HB : Hid (decR s n many = ([], 3)) := Lib.hid (run_bad hkm HE'.out (by decide) (by rw [HR0.out, if_pos HK0.out]; exact firstS_bad HE.out (by have := HRL.out; dsimp only; omega)))
          go_wp2_with fail
          go_ret2
          exact ⟨_, by rw [HB.out]; rfl, by rw [HB.out]; exact ⟨none, 0, 0, rfl, rfl, by omega, by simp [maxLen], Rd.nil _ _⟩, HXE.out⟩
      · obtain ⟨j, hj⟩ : ∃ j, k = j + 1 := ⟨k - 1, by omega⟩
        have hz : ((k : Int) == 0) = false := by rw [beq_eq_false_iff_ne]; omega
        have hlast := (HLA.out).2 j hj
        have hlen := (HLA.out).1
        obtain ⟨AO, cO, rfl, ho1, ho2, ho3⟩ := own_slice HO.out
        obtain ⟨ad, rfl⟩ : ∃ ad, AO = some ad := row_some ho3 smpC_len (by decide) (by omega)
        have HCL := Lib.hid (smp_cells ho3 hlast)
        obtain ⟨u, m, y, hg⟩ : ∃ u m y, getB (bitsAt s d.k (n - d.k)) = (u, m, y) := ⟨_, _, _, rfl⟩
        have HG := Lib.hid hg
        have HK0 := Lib.hid (⟨hk0, hj⟩ : 0 < k ∧ k = j + 1)
        have HLN := Lib.hid hlen
        clear hlast ho2 ho3 hk0
        have hji : (k : Int) - 1 = (j : Int) := by omega
        have hj0 : (0 : Int) ≤ (j : Int) := by omega
        have hj1 : (j : Int) < (out.length : Int) := by omega
        have hj2 : IntKind.i64.wrap (j : Int) = (j : Int) := by rw [IntWalk.i64_left]; unfold wrap64; omega
        clear hj hlen hg
        go_wp2_with fail
        refine (rGet_any _ _ wr (Boo.ext ⟨A, r, c, rfl, by rw [bitsAt_length]; exact HRL.out, hrc, hcm, HRD.out⟩ HX.out)).mono ?_
        rintro e v1 ⟨rfl, hx1⟩
        rw [HG.out]
        have HX1 := Lib.hid (HX.out.trans hx1)
        have HXr := Lib.hid hx1
        clear hx1
        by_cases hy : y = 0
        · subst hy
          have hml := getB_le HG.out
          rw [bitsAt_length] at hml
          obtain ⟨B1, hB1, hs1⟩ := cut_from (P := Try.prog) 31 4 i0 1 Try.underlying31 hi0 hz1 HRD.out HRE.out hrc m (m : Int) rfl (by have := HRL.out; omega)
          have hB2 := cut_bits_from hB1 (by have := HLE.out; omega)
          obtain ⟨u2, m2, y2, hg2⟩ : ∃ u m' y, getB (bitsAt s (d.k + m) (n - (d.k + m))) = (u, m', y) := ⟨_, _, _, rfl⟩
          have HG2 := Lib.hid hg2
          have Q1 := Lib.hid hB2
          have HML := Lib.hid hml
          clear hB1 hB2 hg2 hml
          go_wp2_with fail
          refine (rGet_any _ _ v1 (Boo.ext ⟨B1, r - m, c - m, rfl, by rw [bitsAt_length]; have := HRL.out; omega, by omega, by simp only [maxLen] at *; omega, Q1.out⟩ HX1.out)).mono ?_
          rintro e v2 ⟨rfl, hx2⟩
          rw [HG2.out]
          have HX2 := Lib.hid (HX1.out.trans hx2)
          have HXs := Lib.hid (HXr.out.trans hx2)
          clear hx2
          by_cases hy2 : y2 = 0
          · subst hy2
            have hml2 := getB_le HG2.out
            rw [bitsAt_length] at hml2
            have hmm := HML.out
            have hrl := HRL.out
            have hle := HLE.out
            have e1 : IntKind.i64.wrap ((m : Int) + (m2 : Int)) = (m : Int) + (m2 : Int) := by rw [IntWalk.i64_left]; unfold wrap64; omega
            obtain ⟨B3, hB3, hs3⟩ := cut_from (P := Try.prog) 31 4 i0 1 Try.underlying31 hi0 hz1 HRD.out HRE.out hrc (m + m2) ((m : Int) + (m2 : Int)) (by omega) (by omega)
            have hB4 := cut_bits_from hB3 (by omega)
            have Q3 := Lib.hid hB4
            have HU := Lib.hid (getB_lt HG.out)
            have HU2 := Lib.hid (getB_lt HG2.out)
            have HF := Lib.hid (laterS_eq (d := d) HE.out HG.out HG2.out)
            have HRUN := Lib.hid (run_two HR0.out (by have := HK0.out.1; omega) HE.out HF.out)
            have HMM := Lib.hid (⟨hmm, hrl, hle, hml2⟩ : m ≤ n - d.k ∧ n - d.k = r ∧ d.k ≤ n ∧ m2 ≤ n - (d.k + m))
            clear hB3 hB4 hmm hrl hle hml2
            have e2 : IntKind.i64.wrap (S0 + zagN u) = wrap64 (d.x.step + zagN u) := by rw [HS0.out]; exact IntWalk.i64_left _
            have e3 : IntKind.i64.wrap (d.x.t + wrap64 (d.x.step + zagN u)) = wrap64 (d.x.t + wrap64 (d.x.step + zagN u)) := IntWalk.i64_left _
            have e4 : IntKind.i64.wrap (d.x.v + zagN u2) = wrap64 (d.x.v + zagN u2) := IntWalk.i64_left _
            generalize wrap64 (d.x.t + wrap64 (d.x.step + zagN u)) = T at e3 HF HRUN
            generalize wrap64 (d.x.v + zagN u2) = V at e4 HF HRUN
            generalize wrap64 (d.x.step + zagN u) = S at e2 e3 HF HRUN
            go_wp2_with fail
            refine (rZag_any u v2 HU.out).mono ?_
            rintro e _ ⟨rfl, rfl⟩
            have c0 := HXs.out.cell (HCL.out).1
            have c1 := HXs.out.cell (HCL.out).2
            try dsimp only at c0 c1
            have HO2 := Lib.hid (own_later HO.out HXs.out)
            have hx6 : Ext v2 (v2.alloc (.cells #[.int .i64 T, .int .i64 V] 59)).drew := (Ext.alloc _ _).trans (Ext.drew _)
            go_upto_region 20 with fail
            go_region_law (first
              | (refine step_row smpC_len smpC_one _ rfl (.tmp 70) (.tmp 89) 23 59 rfl i1 (.agg #[.int .i64 0, .int .i64 0]) 16 Try.underlying23 hi1 hz3 hz4 hz5 rfl (by decide) (by decide) w.heap.size _ out rfl (by exact own_later HO2.out hx6) (Nat.le_trans HX2.out.size hx6.size) (some ⟨v2.heap.size, 0, none⟩) 1 1 [(T, V)] rfl rfl (by exact (Rd.new v2 #[_, _] 59).ext (Ext.drew _)) (by rw [HLN.out]; simp only [List.length_singleton]; omega) ?_
                 intro v7 w7 hown7 hchg7
                 have HX7 := Lib.hid (((Chg.of_ext (HX2.out.trans hx6)).trans hchg7).to_ext (Nat.le_refl _))
                 have HO7 := Lib.hid hown7
                 clear hchg7 hown7)
              | (go_simp; go_at_call 39; refine (rZag_any u2 _ HU2.out).mono ?_; rintro e _ ⟨rfl, rfl⟩))
            all_goals
              go_wp2_with fail
              go_roundw
              case rel => exact ⟨k + 1, _, _, by omega, by go_num, HRUN, rfl, ⟨S, rfl, Lib.hid rfl⟩, HO7.out, by rw [Nat.add_assoc]; exact ⟨B3, r - (m + m2), c - (m + m2), rfl, by rw [bitsAt_length]; have := HMM.out; dsimp only; omega, by omega, by simp only [maxLen] at *; omega, Q3.out⟩, HX7.out⟩
              case measure => simp [intOf]; omega
          · have hy1 : (y2 == 0) = false := by simpa using hy2
            have hyb : (y2 != 0) = true := by simpa using hy2
            have HB : Hid (decR s n many = ([], y2)) := Lib.hid (run_bad hkm HE'.out hy2 (by rw [HR0.out, if_neg (by have := HK0.out.1; omega)]; exact laterS_bad2 HE.out HG.out HG2.out))
            have HXE := HX2
            clear hy2
            go_wp2_with fail
            go_ret2
            exact ⟨_, by rw [HB.out]; rfl, by rw [HB.out]; exact ⟨none, 0, 0, rfl, rfl, by omega, by simp [maxLen], Rd.nil _ _⟩, HXE.out⟩
        · have hy1 : (y == 0) = false := by simpa using hy
          have hyb : (y != 0) = true := by simpa using hy
          have HB : Hid (decR s n many = ([], y)) := Lib.hid (run_bad hkm HE'.out hy (by rw [HR0.out, if_neg (by have := HK0.out.1; omega)]; exact laterS_bad1 HE.out HG.out hy))
          have HXE := HX1
          clear hy
          go_wp2_with fail
          go_ret2
          exact ⟨_, by rw [HB.out]; rfl, by rw [HB.out]; exact ⟨none, 0, 0, rfl, rfl, by omega, by simp [maxLen], Rd.nil _ _⟩, HXE.out⟩
    · obtain rfl : k = many := by omega
      by_cases hr0 : 0 < r
      · have hI : (0 : Int) < (r : Int) := by omega
        have HD : Hid (decR s n k = ([], 4)) := Lib.hid (by rw [decR, if_neg (by rw [HE'.out]; simp), HR0.out, if_pos (by have := HRL.out; dsimp only; omega)])
        have HXE := HX
        go_wp2_with fail
        go_ret2
        exact ⟨_, by rw [HD.out]; rfl, by rw [HD.out]; exact ⟨none, 0, 0, rfl, rfl, by omega, by simp [maxLen], Rd.nil _ _⟩, HXE.out⟩
      · have hI : ¬ (0 : Int) < (r : Int) := by omega
        have HD : Hid (decR s n k = (out, 0)) := Lib.hid (by rw [decR, if_neg (by rw [HE'.out]; simp), HR0.out, if_neg (by have := HRL.out; have := HLE.out; dsimp only; omega)])
        go_wp2_with fail
        go_ret2
        exact ⟨_, by rw [HD.out]; rfl, by rw [HD.out]; exact own_row HO.out, HX.out⟩
end Go.Proofs.Ytpdebandcmhbcaa
