/- The document's answer: words, commands read. -/
import Derived.Test.YtdbboooblbdihaaRspN
namespace Go.Proofs.Ytdbboooblbdihaa
open Go.RowKit
set_option linter.unusedVariables false
set_option linter.unusedSectionVars false
set_option linter.unusedSimpArgs false
set_option maxRecDepth 100000


/-- What the document's word tells. -/
def tupW (l : List UInt8) : Pr ByteArray → Value
  | .ok x l' => .tuple #[.string x, .int .i64 ((l.length - l'.length : Nat) : Int), .int .i64 0]
  | .er c => .tuple #[.string ⟨#[]⟩, .int .i64 0, .int .i64 c]
theorem ext_drop (s : ByteArray) (k : Nat) : (s.extract k s.size).toList = s.toList.drop k := by
  rw [Lib.toList_data, Lib.toList_data]
  simp
  exact List.take_of_length_le (by rw [List.length_drop, Array.length_toList]; exact Nat.le_refl _)
theorem ext_mid (s : ByteArray) (k n : Nat) (h : k + n ≤ s.size) : (s.extract k (k + n)).toList = (s.toList.drop k).take n := by
  rw [Lib.toList_data, Lib.toList_data]
  simp
theorem line_er0 {x : UInt8} {most : Int} {l : List UInt8} {c : Int} (h : lineP x most l = .er c) : ¬ c = 0 := by have := line_er h; omega
set_option maxHeartbeats 1000000 in
theorem rword_any (s : ByteArray) (w : World) (hz : s.size ≤ 1000000000) : Calls Try.prog 50 #[.string s] w fun e w' => e = .returned (tupW s.toList (wordP s.toList)) ∧ w = w' := by
  obtain ⟨F, hF⟩ : ∃ F, wordP s.toList = F := ⟨_, rfl⟩
  rw [hF]
  have HN := Lib.hid (rnum_any s 36 512 w hz)
  cases hc : lineP 36 512 s.toList with
  | er c =>
    have hf : F = .er c := by rw [← hF]; simp only [wordP, hc, Pr.bind]
    have hc0 : (c != 0) = true := by have := line_er0 hc; simpa [bne] using this
    rw [hc] at HN
    unfold tupN at HN
    subst hf
    clear hF hc
    go_enter Try.func50, Try.ntmps50
    go_wp2_with fail
    refine HN.out.mono ?_
    rintro e _ ⟨rfl, rfl⟩
    go_wp2_with fail
    go_ret3
    exact ⟨rfl, rfl⟩
  | ok n l1 =>
    obtain ⟨N, rfl, hN1, hN2, hl1⟩ := line_inv hc
    have hln := line_len hc
    rw [size_list] at hln
    have hf : bytesP N l1 = F := by rw [← hF]; simp only [wordP, hc, Pr.bind]; rfl
    rw [hc] at HN
    unfold tupN at HN
    dsimp only at HN
    obtain ⟨k, hk⟩ : ∃ k, k = s.toList.length - l1.length := ⟨_, rfl⟩
    rw [← hk] at HN
    rw [size_list] at hk
    have hdk : s.toList.drop k = l1 := by
      have h1 := congrArg List.length hl1
      rw [size_list, List.length_append] at h1
      rw [hl1]
      exact List.drop_left' (by omega)
    have hN5 : N ≤ 512 := by omega
    have HDK := Lib.hid hdk
    have HF := Lib.hid hf
    have hk1 : k + l1.length ≤ s.size := by omega
    have hk2 : s.size ≤ k + l1.length := by omega
    clear hF hc hl1 hdk hf hN1 hN2 hk
    go_enter Try.func50, Try.ntmps50
    go_wp2_with fail
    refine HN.out.mono ?_
    rintro e _ ⟨rfl, rfl⟩
    clear HN
    have hLD : l1.drop N = s.toList.drop (k + N) := by rw [← HDK.out, List.drop_drop]
    by_cases hm : k + N < s.size
    · obtain ⟨a, ha1, ha2⟩ := drop_cons s (k + N) hm
      have hbp : (endP (a :: s.toList.drop (k + N + 1))).bind (fun _ m => Pr.ok (bsv (l1.take N)) m) = F := by
        rw [← HF.out]
        unfold bytesP
        rw [if_neg (by omega), hLD, ha1]
      have hmI : (k : Int) + (N : Int) < (s.size : Int) := by omega
      have hmJ : (0 : Int) ≤ (k : Int) + (N : Int) := by omega
      clear ha1 hLD
      by_cases h13 : a = 13
      · subst h13
        have h13B : (((13 : UInt8).toNat : Int) != 13) = false := by decide
        by_cases hm2 : k + N + 1 < s.size
        · obtain ⟨b, hb1, hb2⟩ := drop_cons s (k + N + 1) hm2
          rw [hb1] at hbp
          have hm2I : (k : Int) + (N : Int) + 1 < (s.size : Int) := by omega
          have hm2J : (0 : Int) ≤ (k : Int) + (N : Int) + 1 := by omega
          clear hb1
          by_cases h10 : b = 10
          · subst h10
            have h10B : (((10 : UInt8).toNat : Int) != 10) = false := by decide
            rw [show (13 : UInt8) :: 10 :: s.toList.drop (k + N + 1 + 1) = crlf ++ s.toList.drop (k + N + 1 + 1) from rfl, end_fwd, bind_eq] at hbp
            subst hbp
            have HRR : Hid (tupW s.toList (.ok (bsv (l1.take N)) (s.toList.drop (k + N + 1 + 1))) = .tuple #[.string (s.extract k (k + N)), .int .i64 ((k : Int) + (N : Int) + 2), .int .i64 0]) := Lib.hid (by
              show Value.tuple #[.string (bsv (l1.take N)), .int .i64 ((s.toList.length - (s.toList.drop (k + N + 1 + 1)).length : Nat) : Int), .int .i64 0] = _
              rw [List.length_drop, size_list, show s.size - (s.size - (k + N + 1 + 1)) = k + N + 2 by omega]
              have e : bsv (l1.take N) = s.extract k (k + N) := bytes_ext (by rw [bsv_list, ext_mid s k N (by omega), HDK.out])
              rw [e]
              rfl)
            have hs1 : (0 : Int) ≤ (k : Int) ∧ (k : Int) ≤ (k : Int) + (N : Int) ∧ (k : Int) + (N : Int) ≤ (s.size : Int) := by omega
            have hm3 : ¬ (s.size : Int) < (k : Int) + (N : Int) + 2 := by omega
            clear HF
            go_wp2_with fail
            go_ret3
            rw [HRR.out]
            exact ⟨rfl, rfl⟩
          · have hf2 : F = .er 4 := by rw [← hbp, endP_eq, exp_fwd, bind_eq, show expP 10 (b :: s.toList.drop (k + N + 1 + 1)) = .er 4 from if_neg h10]; rfl
            subst hf2
            have h10B : ((b.toNat : Int) != 10) = true := by have := byte_ne h10; simpa [bne] using this
            clear HF hbp
            go_wp2_with fail
            go_ret3
            exact ⟨rfl, rfl⟩
        · have he : s.toList.drop (k + N + 1) = [] := List.drop_of_length_le (by rw [size_list]; omega)
          have hf2 : F = .er 3 := by rw [← hbp, he, endP_eq, exp_fwd]; rfl
          subst hf2
          have hm2I : decide ((k : Int) + (N : Int) + 1 < (s.size : Int)) = false := decide_eq_false (by omega)
          have hm2J : ¬ (k : Int) + (N : Int) + 1 < (s.size : Int) := by omega
          have hm3 : (s.size : Int) < (k : Int) + (N : Int) + 2 := by omega
          clear HF hbp he
          go_wp2_with fail
          go_ret3
          exact ⟨rfl, rfl⟩
      · have hf2 : F = .er 4 := by rw [← hbp, endP_eq, show expP 13 (a :: s.toList.drop (k + N + 1)) = .er 4 from if_neg h13]; rfl
        subst hf2
        have h13B : ((a.toNat : Int) != 13) = true := by have := byte_ne h13; simpa [bne] using this
        clear HF hbp
        go_wp2_with fail
        go_ret3
        exact ⟨rfl, rfl⟩
    · have hf2 : F = .er 3 := by
        rw [← HF.out]
        unfold bytesP
        by_cases hl : l1.length < N
        · rw [if_pos hl]
        · rw [if_neg hl, hLD, List.drop_of_length_le (by rw [size_list]; omega)]; rfl
      subst hf2
      have hmI : decide ((k : Int) + (N : Int) < (s.size : Int)) = false := decide_eq_false (by omega)
      have hmJ : ¬ (k : Int) + (N : Int) < (s.size : Int) := by omega
      have hm2I : decide ((k : Int) + (N : Int) + 1 < (s.size : Int)) = false := decide_eq_false (by omega)
      have hm2J : ¬ (k : Int) + (N : Int) + 1 < (s.size : Int) := by omega
      have hm3 : (s.size : Int) < (k : Int) + (N : Int) + 2 := by omega
      clear HF hLD
      go_wp2_with fail
      go_ret3
      exact ⟨rfl, rfl⟩
end Go.Proofs.Ytdbboooblbdihaa
