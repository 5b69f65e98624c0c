/- The plain law of delta: what is written is read, and what is read is what was written. -/
import Derived.Test.YtpdebandcmhbcaaDelD
namespace Go.Proofs.Ytpdebandcmhbcaa
open Go.RowKit Bit
set_option linter.unusedVariables false

theorem wrap_own {x : Int} (h1 : -9223372036854775808 ≤ x) (h2 : x ≤ 9223372036854775807) : wrap64 x = x := IntWalk.wrap64_in _ ⟨h1, h2⟩
theorem wrap_u64 {x : Int} (h1 : -9223372036854775808 ≤ x) (h2 : x ≤ 9223372036854775807) : wrap64 ((u64N x : Nat) : Int) = x := by
  unfold u64N wrap64; omega
theorem u64_wrap (u : Nat) (hu : u < 18446744073709551616) : u64N (wrap64 (u : Int)) = u := by
  unfold u64N wrap64; omega
theorem wrap_step (a b : Int) : wrap64 (a + wrap64 (wrap64 b - a)) = wrap64 b := by
  unfold wrap64; omega
theorem wrap_back {x : Int} (a : Int) (h1 : -9223372036854775808 ≤ x) (h2 : x ≤ 9223372036854775807) : wrap64 (a + wrap64 (x - a)) = x := by
  unfold wrap64; omega
theorem wrap_diff {d : Int} (a : Int) (h1 : -9223372036854775808 ≤ d) (h2 : d ≤ 9223372036854775807) : wrap64 (wrap64 (a + d) - a) = d := by
  unfold wrap64; omega
theorem zag_lo (u : Nat) (hu : u < 18446744073709551616) : -9223372036854775808 ≤ zagN u := by unfold zagN; split <;> omega
theorem zag_hi (u : Nat) (hu : u < 18446744073709551616) : zagN u ≤ 9223372036854775807 := by unfold zagN; split <;> omega

section
variable {s : ByteArray} {n : Nat} {d : DS}
theorem codedS_eq {u m : Nat} (he : d.x.e = 0) (h : getB (bitsAt s d.k (n - d.k)) = (u, m, 0)) : codedS s n d = (zagN u, ⟨d.k + m, { d.x with e := 0 }⟩) := by
  unfold codedS
  rw [if_neg (by simpa using he), h]
theorem laterS_eq {u m u2 m2 : Nat} (he : d.x.e = 0) (h : getB (bitsAt s d.k (n - d.k)) = (u, m, 0)) (h2 : getB (bitsAt s (d.k + m) (n - (d.k + m))) = (u2, m2, 0)) :
    laterS s n d = ⟨d.k + m + m2, ⟨wrap64 (d.x.t + wrap64 (d.x.step + zagN u)), wrap64 (d.x.v + zagN u2), wrap64 (d.x.step + zagN u), 0⟩⟩ := by
  have h1 := codedS_eq he h
  have hm : midS s n d = ⟨d.k + m, ⟨wrap64 (d.x.t + wrap64 (d.x.step + zagN u)), d.x.v, wrap64 (d.x.step + zagN u), 0⟩⟩ := by
    unfold midS
    rw [h1]
  have h3 : codedS s n (midS s n d) = (zagN u2, ⟨d.k + m + m2, ⟨wrap64 (d.x.t + wrap64 (d.x.step + zagN u)), d.x.v, wrap64 (d.x.step + zagN u), 0⟩⟩) := by
    rw [hm]
    exact codedS_eq rfl h2
  unfold laterS
  rw [h3]
theorem firstS_eq (he : d.x.e = 0) (hk : d.k + 128 ≤ n) :
    firstS s n d = ⟨d.k + 128, ⟨wrap64 ((num (bitsAt s d.k 64) : Nat) : Int), wrap64 ((num (bitsAt s (d.k + 64) 64) : Nat) : Int), d.x.step, 0⟩⟩ := by
  have h1 : plainS s n d = (wrap64 ((num (bitsAt s d.k 64) : Nat) : Int), ⟨d.k + 64, { d.x with e := 0 }⟩) := by
    unfold plainS
    rw [if_neg (by simpa using he), plainR, if_pos (by omega)]
  have h2 : plainS s n ⟨d.k + 64, { d.x with e := 0 }⟩ = (wrap64 ((num (bitsAt s (d.k + 64) 64) : Nat) : Int), ⟨d.k + 64 + 64, { d.x with e := 0 }⟩) := by
    unfold plainS
    rw [if_neg (by simp), plainR, if_pos (by simp only; omega)]
  unfold firstS
  rw [h1, h2]
end

/-- Written, then read. -/
theorem run_enc {l : List Smp} {s : ByteArray} (hs : Packed (encB l) s.toList) (hok : ∀ x ∈ l, SmpOk x) : ∀ k, k ≤ l.length →
    ∃ (pos : Nat) (t v step : Int), runS s (encB l).length k = (⟨pos, ⟨t, v, step, 0⟩⟩, l.take k) ∧ pos ≤ (encB l).length ∧
      ((k = 0 ∧ pos = 0 ∧ step = 0) ∨ ∃ last, 1 ≤ k ∧ l[k - 1]? = some last ∧ last = (t, v) ∧ bitsAt s pos ((encB l).length - pos) = encGo last step (l.drop k))
  | 0, _ => ⟨0, 0, 0, 0, rfl, Nat.zero_le _, .inl ⟨rfl, rfl, rfl⟩⟩
  | k + 1, hk => by
    obtain ⟨pos, t, v, step, hr, hp, hst⟩ := run_enc hs hok k (by omega)
    obtain ⟨x, hx⟩ : ∃ x, l[k]? = some x := ⟨_, List.getElem?_eq_getElem (by omega)⟩
    have hxo := hok x (List.mem_of_getElem? hx)
    have htake : l.take (k + 1) = l.take k ++ [x] := by rw [List.take_add_one, hx]; rfl
    have hrun : runS s (encB l).length (k + 1) = (if k = 0 then firstS s (encB l).length ⟨pos, ⟨t, v, step, 0⟩⟩ else laterS s (encB l).length ⟨pos, ⟨t, v, step, 0⟩⟩, l.take k ++ [((if k = 0 then firstS s (encB l).length ⟨pos, ⟨t, v, step, 0⟩⟩ else laterS s (encB l).length ⟨pos, ⟨t, v, step, 0⟩⟩).x.t, (if k = 0 then firstS s (encB l).length ⟨pos, ⟨t, v, step, 0⟩⟩ else laterS s (encB l).length ⟨pos, ⟨t, v, step, 0⟩⟩).x.v)]) := by
      rw [runS, hr]
      rfl
    rcases hst with ⟨rfl, rfl, rfl⟩ | ⟨last, hk1, hl, rfl, hb⟩
    · obtain ⟨y, tl, rfl⟩ : ∃ y tl, l = y :: tl := by
        cases l with
        | nil => simp at hk
        | cons y tl => exact ⟨y, tl, rfl⟩
      obtain rfl : y = x := by simpa using hx
      have he : encB (y :: tl) = (bitsOf (u64N y.1) 64 ++ bitsOf (u64N y.2) 64) ++ encGo y 0 tl := rfl
      have hlen : (encB (y :: tl)).length = 128 + (encGo y 0 tl).length := by rw [he]; simp [length_bitsOf]; omega
      have h1 : bitsAt s 0 64 = bitsOf (u64N y.1) 64 := by
        rw [bitsAt_packed hs 0 64 (by omega), he, List.drop_zero, List.append_assoc, List.take_append_of_le_length (by rw [length_bitsOf]; exact Nat.le_refl _), List.take_of_length_le (by rw [length_bitsOf]; exact Nat.le_refl _)]
      have h2 : bitsAt s (0 + 64) 64 = bitsOf (u64N y.2) 64 := by
        rw [bitsAt_packed hs (0 + 64) 64 (by omega), he, List.append_assoc, show 0 + 64 = (bitsOf (u64N y.1) 64).length by rw [length_bitsOf], List.drop_left, List.take_append_of_le_length (by rw [length_bitsOf]; exact Nat.le_refl _), List.take_of_length_le (by rw [length_bitsOf]; exact Nat.le_refl _)]
      have hf := firstS_eq (s := s) (n := (encB (y :: tl)).length) (d := ⟨0, ⟨t, v, 0, 0⟩⟩) rfl (by simp only; omega)
      simp only at hf
      rw [h1, h2, num_bitsOf, num_bitsOf, Nat.mod_eq_of_lt (u64N_lt _), Nat.mod_eq_of_lt (u64N_lt _), wrap_u64 hxo.t1 hxo.t2, wrap_u64 hxo.v1 hxo.v2] at hf
      refine ⟨0 + 128, y.1, y.2, 0, ?_, by omega, .inr ⟨y, by omega, by simp, rfl, ?_⟩⟩
      · rw [hrun, if_pos rfl, hf]
        rfl
      · rw [bitsAt_packed hs _ _ (by omega), List.take_of_length_le (by rw [List.length_drop]; exact Nat.le_refl _), he]
        have h128 : 0 + 128 = (bitsOf (u64N y.1) 64 ++ bitsOf (u64N y.2) 64).length := by simp [length_bitsOf]
        rw [h128, List.drop_left]
        rfl
    · obtain ⟨hlt, hxe⟩ := List.getElem?_eq_some_iff.1 hx
      rw [List.drop_eq_getElem_cons hlt, hxe, encGo] at hb
      simp only at hb
      have ha := zigW_lt (wrap64 (x.1 - t) - step)
      have hbb := zigW_lt (x.2 - v)
      generalize hA : zigN (wrap64 (wrap64 (x.1 - t) - step)) = a at hb ha
      generalize hB : zigN (wrap64 (x.2 - v)) = b at hb hbb
      have hlen : (encB l).length - pos = sizeN a + (sizeN b + (encGo x (wrap64 (x.1 - t)) (l.drop (k + 1))).length) := by
        have := congrArg List.length hb
        rw [bitsAt_length, List.length_append, List.length_append, codeB_len, codeB_len] at this
        omega
      have hg1 : getB (bitsAt s pos ((encB l).length - pos)) = (a, sizeN a, 0) := by rw [hb, List.append_assoc, get_code a ha]
      have hd : bitsAt s (pos + sizeN a) ((encB l).length - (pos + sizeN a)) = codeB b ++ encGo x (wrap64 (x.1 - t)) (l.drop (k + 1)) := by
        have := bitsAt_drop s pos ((encB l).length - pos) (sizeN a) (by omega)
        rw [show (encB l).length - (pos + sizeN a) = (encB l).length - pos - sizeN a by omega, ← this, hb, List.append_assoc, ← codeB_len a, List.drop_left]
      have hg2 : getB (bitsAt s (pos + sizeN a) ((encB l).length - (pos + sizeN a))) = (b, sizeN b, 0) := by rw [hd, get_code b hbb]
      have hla := laterS_eq (s := s) (n := (encB l).length) (d := ⟨pos, ⟨t, v, step, 0⟩⟩) rfl hg1 hg2
      simp only at hla
      rw [← hA, ← hB, zag_zig, zag_zig, wrap_step step (x.1 - t), wrap_back t hxo.t1 hxo.t2, wrap_back v hxo.v1 hxo.v2] at hla
      rw [hA, hB] at hla
      refine ⟨pos + sizeN a + sizeN b, x.1, x.2, wrap64 (x.1 - t), ?_, by omega, .inr ⟨x, by omega, hx, rfl, ?_⟩⟩
      · rw [hrun, if_neg (by omega), hla, htake]
      · have := bitsAt_drop s (pos + sizeN a) ((encB l).length - (pos + sizeN a)) (sizeN b) (by omega)
        rw [show (encB l).length - (pos + sizeN a + sizeN b) = (encB l).length - (pos + sizeN a) - sizeN b by omega, ← this, hd, ← codeB_len b, List.drop_left]
theorem dec_enc {l : List Smp} {s : ByteArray} (hs : Packed (encB l) s.toList) (hok : ∀ x ∈ l, SmpOk x) : decR s (encB l).length l.length = (l, 0) := by
  obtain ⟨pos, t, v, step, hr, hp, hst⟩ := run_enc hs hok l.length (Nat.le_refl _)
  have hpe : ¬ pos < (encB l).length := by
    rcases hst with ⟨h, rfl, _⟩ | ⟨last, _, _, _, hb⟩
    · have : l = [] := List.eq_nil_of_length_eq_zero h
      subst this
      simp [encB]
    · rw [List.drop_of_length_le (Nat.le_refl _)] at hb
      have := congrArg List.length hb
      rw [bitsAt_length] at this
      simp [encGo] at this
      omega
  unfold decR
  rw [hr]
  simp only
  rw [if_neg (by simp), if_neg hpe, List.take_of_length_le (Nat.le_refl _)]
end Go.Proofs.Ytpdebandcmhbcaa
