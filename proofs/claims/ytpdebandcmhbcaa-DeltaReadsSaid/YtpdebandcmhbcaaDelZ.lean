/- The plain law of delta: bits that are read are the samples' bits. -/
import Derived.Test.YtpdebandcmhbcaaDelY
namespace Go.Proofs.Ytpdebandcmhbcaa
open Go.RowKit Bit
set_option linter.unusedVariables false

def finS : Smp → Int → List Smp → Smp × Int
  | last, step, [] => (last, step)
  | last, step, y :: t => finS y (wrap64 (y.1 - last.1)) t
theorem finS_snoc (x : Smp) : ∀ (t : List Smp) (last : Smp) (step : Int), finS last step (t ++ [x]) = (x, wrap64 (x.1 - (finS last step t).1.1))
  | [], _, _ => rfl
  | y :: t, last, step => finS_snoc x t y _
theorem encGo_snoc (x : Smp) : ∀ (t : List Smp) (last : Smp) (step : Int), encGo last step (t ++ [x]) = encGo last step t ++ (codeB (zigN (wrap64 (wrap64 (x.1 - (finS last step t).1.1) - (finS last step t).2))) ++ codeB (zigN (wrap64 (x.2 - (finS last step t).1.2))))
  | [], _, _ => by simp [encGo, finS]
  | y :: t, last, step => by
    have := encGo_snoc x t y (wrap64 (y.1 - last.1))
    simp only [List.cons_append, encGo, this, List.append_assoc, finS]
theorem encB_snoc (x x0 : Smp) (t : List Smp) : encB (x0 :: (t ++ [x])) = encB (x0 :: t) ++ (codeB (zigN (wrap64 (wrap64 (x.1 - (finS x0 0 t).1.1) - (finS x0 0 t).2))) ++ codeB (zigN (wrap64 (x.2 - (finS x0 0 t).1.2)))) := by
  simp only [encB, encGo_snoc, List.append_assoc]

section
variable {s : ByteArray} {n : Nat} {d : DS}
theorem codedS_err {u m : Nat} {y : Int} (he : d.x.e = 0) (h : getB (bitsAt s d.k (n - d.k)) = (u, m, y)) : (codedS s n d).2.x.e = y := by
  unfold codedS
  rw [if_neg (by simpa using he), h]
theorem laterS_err (he : d.x.e = 0) (h : (laterS s n d).x.e = 0) : ∃ u m u2 m2, getB (bitsAt s d.k (n - d.k)) = (u, m, 0) ∧ getB (bitsAt s (d.k + m) (n - (d.k + m))) = (u2, m2, 0) := by
  obtain ⟨u, m, y, h1⟩ : ∃ u m y, getB (bitsAt s d.k (n - d.k)) = (u, m, y) := ⟨_, _, _, rfl⟩
  have e1 := codedS_err he h1
  by_cases hy : y = 0
  · subst hy
    have hc := codedS_eq he h1
    have hme : (midS s n d).x.e = 0 := by unfold midS; exact e1
    have hmk : (midS s n d).k = d.k + m := by unfold midS; rw [hc]
    obtain ⟨u2, m2, y2, h2⟩ : ∃ u m y, getB (bitsAt s (midS s n d).k (n - (midS s n d).k)) = (u, m, y) := ⟨_, _, _, rfl⟩
    have e2 := codedS_err hme h2
    have : y2 = 0 := by
      rw [← e2]
      exact h
    subst this
    rw [hmk] at h2
    exact ⟨u, m, u2, m2, h1, h2⟩
  · exfalso
    have hme : (midS s n d).x.e = y := by unfold midS; exact e1
    have : (laterS s n d).x.e = y := by
      unfold laterS
      have h3 : codedS s n (midS s n d) = (0, midS s n d) := by
        unfold codedS
        rw [if_pos (by rw [hme]; exact hy)]
      rw [h3]
      exact hme
    rw [this] at h
    exact hy h
theorem firstS_err (he : d.x.e = 0) (h : (firstS s n d).x.e = 0) : d.k + 128 ≤ n := by
  by_cases h1 : d.k + 64 ≤ n
  · by_cases h2 : d.k + 128 ≤ n
    · exact h2
    · exfalso
      unfold firstS plainS plainR at h
      simp [he, h1] at h
      rw [if_neg (by omega)] at h
      simp at h
  · exfalso
    unfold firstS plainS plainR at h
    simp [he, h1] at h
end

theorem run_dec (s : ByteArray) (n : Nat) : ∀ k, (runS s n k).1.x.e = 0 → ∃ (pos : Nat) (t v step : Int), (runS s n k).1 = ⟨pos, ⟨t, v, step, 0⟩⟩ ∧ pos ≤ n ∧ (∀ x ∈ (runS s n k).2, SmpOk x) ∧
      ((k = 0 ∧ pos = 0 ∧ step = 0 ∧ (runS s n k).2 = []) ∨ ∃ x0 tl, 1 ≤ k ∧ (runS s n k).2 = x0 :: tl ∧ (x0 :: tl).length = k ∧ finS x0 0 tl = ((t, v), step) ∧ encB (x0 :: tl) ++ bitsAt s pos (n - pos) = bitsAt s 0 n)
  | 0, _ => ⟨0, 0, 0, 0, rfl, Nat.zero_le _, by simp [runS], .inl ⟨rfl, rfl, rfl, rfl⟩⟩
  | k + 1, he => by
    have he0 : (runS s n k).1.x.e = 0 := by
      by_cases h : (runS s n k).1.x.e = 0
      · exact h
      · rw [runS, if_pos h] at he
        exact absurd he h
    obtain ⟨pos, t, v, step, hr, hp, hall, hst⟩ := run_dec s n k he0
    rw [runS, if_neg (by simpa using he0), hr] at he ⊢
    simp only at he ⊢
    rcases hst with ⟨rfl, rfl, rfl, ho⟩ | ⟨x0, tl, hk1, ho, hol, hf, hb⟩
    · simp only [if_true] at he ⊢
      have h128 := firstS_err (s := s) (n := n) (d := ⟨0, ⟨t, v, 0, 0⟩⟩) rfl he
      simp only at h128
      rw [firstS_eq (s := s) (n := n) (d := ⟨0, ⟨t, v, 0, 0⟩⟩) rfl h128, ho]
      simp only
      have hl1 := num_lt (bitsAt s 0 64)
      have hl2 := num_lt (bitsAt s (0 + 64) 64)
      rw [bitsAt_length] at hl1 hl2
      have e1 : bitsOf (num (bitsAt s 0 64)) 64 = bitsAt s 0 64 := by
        have := bitsOf_num (bitsAt s 0 64)
        rwa [bitsAt_length] at this
      have e2 : bitsOf (num (bitsAt s (0 + 64) 64)) 64 = bitsAt s (0 + 64) 64 := by
        have := bitsOf_num (bitsAt s (0 + 64) 64)
        rwa [bitsAt_length] at this
      obtain ⟨T, hT⟩ : ∃ T, T = wrap64 ((num (bitsAt s 0 64) : Nat) : Int) := ⟨_, rfl⟩
      obtain ⟨V, hV⟩ : ∃ T, T = wrap64 ((num (bitsAt s (0 + 64) 64) : Nat) : Int) := ⟨_, rfl⟩
      rw [← hT, ← hV]
      refine ⟨0 + 128, T, V, 0, rfl, h128, ?_, .inr ⟨(T, V), [], by omega, rfl, rfl, rfl, ?_⟩⟩
      · intro x hx
        rw [List.nil_append, List.mem_singleton] at hx
        subst hx
        rw [hT, hV]
        exact ⟨wrap64_lo _, wrap64_hi _, wrap64_lo _, wrap64_hi _⟩
      · simp only [encB, firstB, encGo, List.append_nil]
        rw [hT, hV, u64_wrap _ (by simpa using hl1), u64_wrap _ (by simpa using hl2), e1, e2]
        have h3 := bitsAt_add s 64 64
        have h4 := bitsAt_add s 128 (n - 128)
        rw [show 128 + (n - 128) = n by omega] at h4
        rw [h4, show (128 : Nat) = 64 + 64 from rfl, h3]
    · rw [if_neg (by omega)] at he ⊢
      obtain ⟨u, m, u2, m2, h1, h2⟩ := laterS_err (s := s) (n := n) (d := ⟨pos, ⟨t, v, step, 0⟩⟩) rfl he
      simp only at h1 h2
      rw [laterS_eq (s := s) (n := n) (d := ⟨pos, ⟨t, v, step, 0⟩⟩) rfl h1 h2, ho]
      simp only
      obtain ⟨hu, hm, hml, hbu⟩ := code_get h1
      obtain ⟨hu2, hm2, hml2, hbu2⟩ := code_get h2
      rw [bitsAt_length] at hml hml2
      rw [bitsAt_drop _ _ _ _ (by omega)] at hbu hbu2
      rw [show n - pos - m = n - (pos + m) by omega] at hbu
      rw [show n - (pos + m) - m2 = n - (pos + m + m2) by omega] at hbu2
      refine ⟨pos + m + m2, wrap64 (t + wrap64 (step + zagN u)), wrap64 (v + zagN u2), wrap64 (step + zagN u), rfl, by omega, ?_, .inr ⟨x0, tl ++ [(wrap64 (t + wrap64 (step + zagN u)), wrap64 (v + zagN u2))], by omega, rfl, ?_, ?_, ?_⟩⟩
      · intro x hx
        rw [List.mem_append] at hx
        rcases hx with hx | hx
        · exact hall x (by rw [ho]; exact hx)
        · simp at hx
          subst hx
          exact ⟨wrap64_lo _, wrap64_hi _, wrap64_lo _, wrap64_hi _⟩
      · simp at hol ⊢
        omega
      · rw [finS_snoc, hf]
        simp only
        rw [wrap_diff t (wrap64_lo _) (wrap64_hi _)]
      · rw [encB_snoc, hf]
        simp only
        rw [wrap_diff t (wrap64_lo _) (wrap64_hi _), wrap_diff step (zag_lo u hu) (zag_hi u hu), wrap_diff v (zag_lo u2 hu2) (zag_hi u2 hu2), zig_zag, zig_zag, List.append_assoc, List.append_assoc, ← hbu2, ← hbu]
        exact hb
/-- Bits that are decoded are the samples' bits. -/
theorem enc_dec {s : ByteArray} {n many : Nat} {l : List Smp} (h : decR s n many = (l, 0)) (hn : 0 < n) : encB l = bitsAt s 0 n ∧ (∀ x ∈ l, SmpOk x) ∧ l.length ≤ many := by
  unfold decR at h
  split at h
  · rename_i he
    injection h with h1 h2
    exact absurd h2 he
  rename_i he
  split at h
  · simp at h
  rename_i hk
  injection h with h1 _
  have he' : (runS s n many).1.x.e = 0 := by simpa using he
  obtain ⟨pos, t, v, step, hr, hp, hall, hst⟩ := run_dec s n many he'
  rw [hr] at hk
  simp only at hk
  rw [h1] at hall hst
  refine ⟨?_, hall, by rw [← h1]; exact runS_len s n many⟩
  rcases hst with ⟨_, rfl, _⟩ | ⟨x0, tl, _, rfl, _, _, hb⟩
  · omega
  · rw [show n - pos = 0 by omega, bitsAt_zero, List.append_nil] at hb
    exact hb
end Go.Proofs.Ytpdebandcmhbcaa
