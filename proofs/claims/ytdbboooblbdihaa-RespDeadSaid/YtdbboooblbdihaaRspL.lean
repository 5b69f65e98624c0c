/- The plain law of reading: what is read ahead of more bytes; numbers, lines, words and frames there and back. -/
import Derived.Test.YtdbboooblbdihaaRspG
namespace Go.Proofs.Ytdbboooblbdihaa
open Go.RowKit
set_option linter.unusedVariables false
set_option linter.unusedSectionVars false
set_option linter.unusedSimpArgs false
set_option maxRecDepth 100000

/-- A reading that does not look beyond what it took. -/
def PreP {α : Type} (f : List UInt8 → Pr α) : Prop := ∀ l m, (∀ x l', f l = .ok x l' → f (l ++ m) = .ok x (l' ++ m)) ∧ (∀ c, c ≠ 3 → f l = .er c → f (l ++ m) = .er c)
theorem PreP.bind {α β : Type} {f : List UInt8 → Pr α} {g : α → List UInt8 → Pr β} (hf : PreP f) (hg : ∀ a, PreP (g a)) : PreP (fun l => (f l).bind g) := by
  intro l m
  constructor
  · intro x l' h
    obtain ⟨a, l1, h1, h2⟩ := bind_ok h
    show (f (l ++ m)).bind g = _
    rw [(hf l m).1 a l1 h1]
    exact (hg a l1 m).1 x l' h2
  · intro c hc h
    show (f (l ++ m)).bind g = _
    rcases bind_er h with h | ⟨a, l1, h1, h2⟩
    · rw [(hf l m).2 c hc h]; rfl
    · rw [(hf l m).1 a l1 h1]; exact (hg a l1 m).2 c hc h2
theorem PreP.ret {α : Type} (a : α) : PreP (fun l => Pr.ok a l) := fun l m => ⟨fun x l' h => by injection h with h1 h2; rw [h1, h2], fun c _ h => by cases h⟩
theorem PreP.fail {α : Type} (c : Int) : PreP (fun _ => (Pr.er c : Pr α)) := fun l m => ⟨fun x l' h => (by cases h), fun d _ h => h⟩
theorem bind_eq {α β : Type} (a : α) (l : List UInt8) (f : α → List UInt8 → Pr β) : (Pr.ok a l).bind f = f a l := rfl
theorem pre_ite {α : Type} {p : Prop} [Decidable p] {f g : List UInt8 → Pr α} (hf : PreP f) (hg : PreP g) : PreP (fun l => if p then f l else g l) := by
  by_cases h : p
  · simpa only [if_pos h] using hf
  · simpa only [if_neg h] using hg
/-- Cut off it is short. -/
theorem short_of {α : Type} {f : List UInt8 → Pr α} (hf : PreP f) {l m : List UInt8} {x : α} (h : f (l ++ m) = .ok x []) (hm : m ≠ []) : f l = .er 3 := by
  cases hl : f l with
  | ok y l' =>
    have := (hf l m).1 y l' hl
    rw [h] at this
    injection this with _ h2
    have h3 := congrArg List.length h2
    rw [List.length_append, List.length_nil] at h3
    exact absurd (List.eq_nil_of_length_eq_zero (by omega)) hm
  | er c =>
    by_cases hc : c = 3
    · rw [hc]
    · have := (hf l m).2 c hc hl
      rw [h] at this
      cases this
theorem pre_exp (x : UInt8) : PreP (expP x) := by
  intro l m
  cases l with
  | nil => exact ⟨fun a l' h => by simp [expP] at h, fun c hc h => by simp [expP] at h; exact absurd h.symm hc⟩
  | cons c t =>
    constructor
    · intro a l' h
      have h : (if c = x then Pr.ok () t else .er 4) = .ok a l' := h
      show (if c = x then Pr.ok () (t ++ m) else .er 4) = _
      by_cases hc : c = x
      · rw [if_pos hc] at h ⊢; injection h with _ h; rw [h]
      · rw [if_neg hc] at h; cases h
    · intro d hd h
      have h : (if c = x then Pr.ok () t else .er 4) = .er d := h
      show (if c = x then Pr.ok () (t ++ m) else .er 4) = _
      by_cases hc : c = x
      · rw [if_pos hc] at h; cases h
      · rw [if_neg hc] at h ⊢; injection h with h; rw [h]
theorem endP_eq (l : List UInt8) : endP l = (expP 13 l).bind fun _ l => expP 10 l := by
  unfold endP
  cases expP 13 l <;> rfl
theorem pre_end : PreP endP := by
  rw [show endP = fun l => (expP 13 l).bind fun _ l => expP 10 l from funext endP_eq]
  exact PreP.bind (pre_exp 13) (fun _ => pre_exp 10)
theorem pre_num (most : Nat) (minus : Bool) : ∀ (k : Nat) (z : Bool) (n : Int), PreP (numG most minus k z n) := by
  intro k z n l m
  induction l generalizing k z n with
  | nil => exact ⟨fun a l' h => by simp [numG] at h, fun c hc h => by simp [numG] at h; exact absurd h.symm hc⟩
  | cons c t ih =>
    rw [List.cons_append]
    unfold numG
    by_cases hd : dig c
    · rw [if_pos hd, if_pos hd]
      by_cases hk : k < most ∧ (k = 0 ∨ z = false)
      · rw [if_pos hk, if_pos hk]
        by_cases hq : wrap64 ((nextN minus n c).tdiv 10) = n
        · rw [if_pos hq, if_pos hq]; exact ih _ _ _
        · rw [if_neg hq, if_neg hq]; exact PreP.fail (α := Int) 4 [] m
      · rw [if_neg hk, if_neg hk]; exact PreP.fail (α := Int) 4 [] m
    · rw [if_neg hd, if_neg hd]
      by_cases hk : 0 < k
      · rw [if_pos hk, if_pos hk]; exact PreP.ret n (c :: t) m
      · rw [if_neg hk, if_neg hk]; exact PreP.fail (α := Int) 4 [] m
theorem pre_line (x : UInt8) (most : Int) : PreP (lineP x most) :=
  PreP.bind (pre_exp x) fun _ => PreP.bind (pre_num 9 false 0 false 0) fun n => PreP.bind pre_end fun _ => pre_ite (PreP.ret n) (PreP.fail 13)
theorem pre_bytes (n : Nat) : PreP (bytesP n) := by
  intro l m
  have e : ∀ l, n ≤ l.length → bytesP n l = (endP (l.drop n)).bind fun _ m => .ok (bsv (l.take n)) m := fun l h => by unfold bytesP; rw [if_neg (by omega)]
  by_cases h : l.length < n
  · have e3 : bytesP n l = .er 3 := by unfold bytesP; rw [if_pos h]
    rw [e3]
    exact ⟨fun _ _ h => (by cases h), fun c hc h => by injection h with h; exact absurd h.symm hc⟩
  · rw [e l (by omega), e (l ++ m) (by simp; omega), List.drop_append_of_le_length (by omega), List.take_append_of_le_length (by omega)]
    exact PreP.bind pre_end (fun _ => PreP.ret _) (l.drop n) m
theorem pre_word : PreP wordP := PreP.bind (pre_line 36 512) fun n => pre_bytes n.toNat
theorem pre_words : ∀ (k : Nat) (out : List ByteArray), PreP (wordsA k out)
  | 0, out => PreP.ret out
  | k + 1, out => PreP.bind pre_word fun x => pre_words k (out ++ [x])
theorem pre_cmd : PreP cmdP := PreP.bind (pre_line 42 64) fun n => pre_words n.toNat []

/-! ### numbers -/
def sgnOk (minus : Bool) (n : Int) : Prop := if minus = true then n ≤ 0 else 0 ≤ n
def in64 (n : Int) : Prop := -9223372036854775808 ≤ n ∧ n ≤ 9223372036854775807
theorem dchar {d : Nat} (h : d < 10) : (UInt8.ofNat (48 + d)).toNat = 48 + d := by rw [UInt8.toNat_ofNat']; omega
theorem dchar_dig {d : Nat} (h : d < 10) : dig (UInt8.ofNat (48 + d)) := by unfold dig; rw [dchar h]; omega
theorem dig_char {c : UInt8} (h : dig c) : c = UInt8.ofNat (48 + (c.toNat - 48)) := by
  apply UInt8.toNat_inj.1
  have h2 := h.1
  have h3 := h.2
  rw [dchar (by omega)]
  omega
theorem nextN_fwd {minus : Bool} {M d : Nat} (hd : d < 10) (hr : in64 (sgn minus (10 * M + d))) : nextN minus (sgn minus M) (UInt8.ofNat (48 + d)) = sgn minus (10 * M + d) := by
  unfold nextN dval
  unfold in64 at hr
  rw [dchar hd]
  cases minus <;> simp [sgn] at hr ⊢ <;> unfold wrap64 <;> omega
theorem tdiv_fwd {minus : Bool} {M d : Nat} (hd : d < 10) (hr : in64 (sgn minus (10 * M + d))) : wrap64 ((sgn minus (10 * M + d)).tdiv 10) = sgn minus M := by
  rw [sgn_div, show (10 * M + d) / 10 = M by omega]
  apply IntWalk.wrap64_in
  unfold in64 at hr
  cases minus <;> simp [sgn] at hr ⊢ <;> omega
theorem in64_le {minus : Bool} {M N : Nat} (h : in64 (sgn minus N)) (hm : M ≤ N) : in64 (sgn minus M) := by
  unfold in64 at h ⊢
  cases minus <;> simp [sgn] at h ⊢ <;> omega
theorem digs_pos (m : Nat) : 0 < (digs m).length := by
  by_cases h : m < 10
  · rw [digs_lt h]; simp
  · rw [digs_ge h]; simp
theorem num_fwd (most : Nat) (minus : Bool) : ∀ (M : Nat) (l : List UInt8), (digs M).length ≤ most → in64 (sgn minus M) → numG most minus 0 false 0 (digs M ++ l) = numG most minus (digs M).length (decide (M = 0)) (sgn minus M) l := by
  intro M
  induction M using Nat.strongRecOn with
  | _ M ih =>
    intro l hl hr
    by_cases h : M < 10
    · rw [digs_lt h] at hl ⊢
      simp only [List.cons_append, List.nil_append, List.length_cons, List.length_nil] at hl ⊢
      rw [numG, if_pos (dchar_dig h), if_pos ⟨by omega, .inl rfl⟩]
      have e0 : (0 : Int) = sgn minus 0 := by cases minus <;> rfl
      have en := nextN_fwd (minus := minus) (M := 0) h (by simpa using hr)
      have et := tdiv_fwd (minus := minus) (M := 0) h (by simpa using hr)
      rw [← e0] at en et
      rw [en, if_pos et, if_pos rfl]
      simp only [Nat.mul_zero, Nat.zero_add]
      congr 1
      rw [decide_eq_decide]
      constructor
      · intro e
        have := congrArg UInt8.toNat e
        rw [dchar h] at this
        simpa using this
      · intro e; subst e; rfl
    · rw [digs_ge h] at hl ⊢
      rw [List.length_append, List.length_singleton] at hl ⊢
      rw [List.append_assoc, ih (M / 10) (by omega) _ (by omega) (in64_le hr (by omega))]
      have hd : M % 10 < 10 := by omega
      have hM : 10 * (M / 10) + M % 10 = M := by omega
      have hp := digs_pos (M / 10)
      have en := nextN_fwd (minus := minus) (M := M / 10) hd (by rw [hM]; exact hr)
      have et := tdiv_fwd (minus := minus) (M := M / 10) hd (by rw [hM]; exact hr)
      rw [hM] at en et
      simp only [List.cons_append, List.nil_append]
      rw [numG, if_pos (dchar_dig hd), if_pos ⟨by omega, .inr (decide_eq_false (by omega))⟩, en, if_pos et, if_neg (by omega)]
      congr 1
      rw [decide_eq_decide]
      omega
/-- A number is read as it is written. -/
theorem num_ok {most : Nat} {minus : Bool} {M : Nat} {c : UInt8} {t : List UInt8} (hl : (digs M).length ≤ most) (hr : in64 (sgn minus M)) (hc : ¬ dig c) : numG most minus 0 false 0 (digs M ++ c :: t) = .ok (sgn minus M) (c :: t) := by
  rw [num_fwd most minus M _ hl hr, numG, if_neg hc, if_pos (digs_pos M)]
theorem next_inv {minus : Bool} {N : Nat} {c : UInt8} (hd : dig c) (hr : in64 (sgn minus N)) (hq : wrap64 ((nextN minus (sgn minus N) c).tdiv 10) = sgn minus N) :
    nextN minus (sgn minus N) c = sgn minus (10 * N + (c.toNat - 48)) ∧ in64 (sgn minus (10 * N + (c.toNat - 48))) := by
  have hn : in64 (nextN minus (sgn minus N) c) := by unfold nextN wrap64 in64; omega
  have hc1 := hd.1
  have hc2 := hd.2
  obtain ⟨M, hM⟩ : ∃ M, M = nextN minus (sgn minus N) c := ⟨_, rfl⟩
  rw [← hM] at hn hq ⊢
  have h1 : (M.tdiv 10) * 10 + M.tmod 10 = M := Int.tdiv_mul_add_tmod M 10
  have h2 : -10 < M.tmod 10 ∧ M.tmod 10 < 10 := by
    have a := Int.tmod_lt_of_pos M (show (0 : Int) < 10 by decide)
    have b := Int.tmod_lt_of_pos (-M) (show (0 : Int) < 10 by decide)
    rw [Int.neg_tmod] at b
    omega
  unfold nextN wrap64 dval at hM
  unfold in64 at hn hr ⊢
  unfold wrap64 at hq
  generalize M.tdiv 10 = q at h1 hq
  generalize M.tmod 10 = r at h1 h2
  cases minus <;> simp [sgn] at hq hM hr ⊢ <;> omega
/-- What a number is read of. -/
theorem num_inv (most : Nat) (minus : Bool) : ∀ (l : List UInt8) (k : Nat) (N : Nat) (pre : List UInt8), (k = 0 → pre = [] ∧ N = 0) → (0 < k → pre = digs N) → k = pre.length → k ≤ most → in64 (sgn minus N) → ∀ z m l', (0 < k → z = decide (N = 0)) → numG most minus k z (sgn minus N) l = .ok m l' →
    ∃ M ds, m = sgn minus M ∧ l = ds ++ l' ∧ pre ++ ds = digs M ∧ in64 m ∧ (digs M).length ≤ most ∧ ∃ c t, l' = c :: t ∧ ¬ dig c := by
  intro l
  induction l with
  | nil => intro k N pre _ _ _ _ _ z m l' _ h; simp [numG] at h
  | cons c t ih =>
    intro k N pre hk0 hk1 hkl hkm hr z m l' hz h
    unfold numG at h
    by_cases hd : dig c
    · rw [if_pos hd] at h
      by_cases hc : k < most ∧ (k = 0 ∨ z = false)
      · rw [if_pos hc] at h
        by_cases hq : wrap64 ((nextN minus (sgn minus N) c).tdiv 10) = sgn minus N
        · rw [if_pos hq] at h
          obtain ⟨e1, e2⟩ := next_inv hd hr hq
          rw [e1] at h
          have hcd := dig_char hd
          have hc1 := hd.1
          have hc2 := hd.2
          obtain ⟨M, ds, h1, h2, h3, h4, h5, h6⟩ := ih (k + 1) (10 * N + (c.toNat - 48)) (pre ++ [c]) (by omega) (fun _ => by
            by_cases h0 : k = 0
            · obtain ⟨rfl, rfl⟩ := hk0 h0
              rw [Nat.mul_zero, Nat.zero_add, digs_lt (by omega), ← hcd]
              rfl
            · have hz0 := hz (by omega)
              rcases hc.2 with h | h
              · exact absurd h h0
              · rw [h] at hz0
                have hN : ¬ N = 0 := by simpa using hz0.symm
                rw [digs_ge (by omega), show (10 * N + (c.toNat - 48)) / 10 = N by omega, show (10 * N + (c.toNat - 48)) % 10 = c.toNat - 48 by omega, ← hcd, hk1 (by omega)]) (by simp [hkl]) (by omega) e2 _ m l' (fun _ => by
            by_cases h0 : k = 0
            · rw [if_pos h0]
              obtain ⟨_, rfl⟩ := hk0 h0
              rw [decide_eq_decide]
              constructor
              · intro e; subst e; decide
              · intro e
                apply UInt8.toNat_inj.1
                show c.toNat = 48
                omega
            · rw [if_neg h0]
              have hz0 := hz (by omega)
              rcases hc.2 with h | h
              · exact absurd h h0
              · rw [h] at hz0 ⊢
                have hN : ¬ N = 0 := by simpa using hz0.symm
                rw [decide_eq_false (by omega)]) h
          exact ⟨M, c :: ds, h1, by rw [h2]; rfl, by rw [← h3]; simp, h4, h5, h6⟩
        · rw [if_neg hq] at h; cases h
      · rw [if_neg hc] at h; cases h
    · rw [if_neg hd] at h
      by_cases hk : 0 < k
      · rw [if_pos hk] at h
        injection h with h1 h2
        exact ⟨N, [], h1.symm, h2, by rw [hk1 hk]; simp, by rw [← h1]; exact hr, by rw [← hk1 hk, ← hkl]; exact hkm, c, t, h2.symm, hd⟩
      · rw [if_neg hk] at h; cases h
theorem num_of {most : Nat} {minus : Bool} {l l' : List UInt8} {m : Int} (h : numG most minus 0 false 0 l = .ok m l') : ∃ M, m = sgn minus M ∧ l = digs M ++ l' ∧ in64 m ∧ (digs M).length ≤ most ∧ ∃ c t, l' = c :: t ∧ ¬ dig c := by
  have e0 : (0 : Int) = sgn minus 0 := by cases minus <;> rfl
  rw [e0] at h
  obtain ⟨M, ds, h1, h2, h3, h4, h5, h6⟩ := num_inv most minus l 0 0 [] (fun _ => ⟨rfl, rfl⟩) (by omega) rfl (by omega) (by unfold in64; cases minus <;> simp [sgn]) false m l' (by omega) h
  simp at h3
  exact ⟨M, h1, by rw [h2, h3], h4, h5, h6⟩

/-! ### lines, words, frames -/
theorem exp_inv {x : UInt8} {l l' : List UInt8} {a : Unit} (h : expP x l = .ok a l') : l = x :: l' := by
  cases l with
  | nil => simp [expP] at h
  | cons c t =>
    have h : (if c = x then Pr.ok () t else .er 4) = .ok a l' := h
    by_cases hc : c = x
    · rw [if_pos hc] at h
      injection h with _ h
      rw [h, hc]
    · rw [if_neg hc] at h
      cases h
theorem exp_fwd (x : UInt8) (l : List UInt8) : expP x (x :: l) = .ok () l := by
  show (if x = x then Pr.ok () l else .er 4) = _
  rw [if_pos rfl]
theorem end_inv {l l' : List UInt8} {a : Unit} (h : endP l = .ok a l') : l = crlf ++ l' := by
  rw [endP_eq] at h
  obtain ⟨b, l1, h1, h2⟩ := bind_ok h
  rw [exp_inv h1, exp_inv h2]
  rfl
theorem end_fwd (l : List UInt8) : endP (crlf ++ l) = .ok () l := by
  rw [endP_eq, show crlf ++ l = 13 :: 10 :: l from rfl, exp_fwd]
  exact exp_fwd 10 l
theorem ndig13 : ¬ dig 13 := by decide
theorem digs_ten {M k : Nat} (h : (digs M).length ≤ k) : M < 10 ^ k := by
  induction M using Nat.strongRecOn generalizing k with
  | _ M ih =>
    by_cases hM : M < 10
    · have := digs_pos M
      have h1 : 10 ^ 1 ≤ 10 ^ k := Nat.pow_le_pow_right (by decide) (by omega)
      omega
    · rw [digs_ge hM, List.length_append, List.length_singleton] at h
      obtain ⟨j, rfl⟩ : ∃ j, k = j + 1 := ⟨k - 1, by omega⟩
      have := ih (M / 10) (by omega) (k := j) (by omega)
      rw [Nat.pow_succ]
      omega
theorem decL_nat (n : Nat) : decL (n : Int) = digs n := by
  unfold decL
  rw [if_neg (by omega)]
  rfl
theorem line_fwd {x : UInt8} {most : Int} {n : Nat} (h1 : (n : Int) ≤ most) (h2 : n < 1000000000) (l : List UInt8) : lineP x most (x :: decL (n : Int) ++ crlf ++ l) = .ok (n : Int) l := by
  unfold lineP
  rw [decL_nat, show x :: digs n ++ crlf ++ l = x :: (digs n ++ 13 :: 10 :: l) by simp [crlf], exp_fwd]
  show (numG 9 false 0 false 0 (digs n ++ 13 :: 10 :: l)).bind _ = _
  have hl : (digs n).length ≤ 9 := digs_len19 n 9 (by omega) (by decide)
  rw [num_ok hl (by unfold in64; simp [sgn]; omega) ndig13]
  rw [bind_eq, show (13 : UInt8) :: 10 :: l = crlf ++ l from rfl, end_fwd, bind_eq]
  rw [show sgn false n = (n : Int) from rfl, if_pos h1]
theorem line_inv {x : UInt8} {most : Int} {l l' : List UInt8} {n : Int} (h : lineP x most l = .ok n l') : ∃ M : Nat, n = (M : Int) ∧ (M : Int) ≤ most ∧ M < 1000000000 ∧ l = x :: decL (M : Int) ++ crlf ++ l' := by
  unfold lineP at h
  obtain ⟨a, l1, h1, h⟩ := bind_ok h
  obtain ⟨m, l2, h2, h⟩ := bind_ok h
  obtain ⟨b, l3, h3, h⟩ := bind_ok h
  obtain ⟨M, e1, e2, e3, e4, _⟩ := num_of h2
  have e5 := digs_ten e4
  by_cases hm : m ≤ most
  · rw [if_pos hm] at h
    injection h with h4 h5
    have e1 : m = (M : Int) := e1
    refine ⟨M, by rw [← h4]; exact e1, by rw [← e1]; exact hm, by omega, ?_⟩
    rw [exp_inv h1, e2, end_inv h3, h5, decL_nat]
    simp
  · rw [if_neg hm] at h; cases h
theorem bytes_fwd (s : ByteArray) (l : List UInt8) : bytesP s.size (s.toList ++ crlf ++ l) = .ok s l := by
  unfold bytesP
  have hl := size_list s
  rw [if_neg (by simp; omega), List.append_assoc, List.drop_append_of_le_length (by omega), List.take_append_of_le_length (by omega), List.drop_of_length_le (by omega), List.take_of_length_le (by omega), List.nil_append, end_fwd, bsv_of]
  rfl
theorem bytes_inv {n : Nat} {l l' : List UInt8} {s : ByteArray} (h : bytesP n l = .ok s l') : s.size = n ∧ l = s.toList ++ crlf ++ l' := by
  unfold bytesP at h
  by_cases hn : l.length < n
  · rw [if_pos hn] at h; cases h
  · rw [if_neg hn] at h
    obtain ⟨a, l1, h1, h⟩ := bind_ok h
    injection h with h2 h3
    have := end_inv h1
    subst h2
    rw [bsv_size, bsv_list, List.length_take, List.append_assoc, ← h3, ← this, List.take_append_drop]
    exact ⟨by omega, rfl⟩
theorem word_fwd (s : ByteArray) (h : s.size ≤ 512) (l : List UInt8) : wordP (bulkL s.toList ++ l) = .ok s l := by
  unfold wordP bulkL
  rw [size_list, show 36 :: decL (s.size : Int) ++ crlf ++ (s.toList ++ crlf) ++ l = 36 :: decL (s.size : Int) ++ crlf ++ (s.toList ++ crlf ++ l) by simp, line_fwd (by omega) (by omega)]
  exact bytes_fwd s l
theorem word_inv {l l' : List UInt8} {s : ByteArray} (h : wordP l = .ok s l') : s.size ≤ 512 ∧ l = bulkL s.toList ++ l' := by
  unfold wordP at h
  obtain ⟨n, l1, h1, h⟩ := bind_ok h
  obtain ⟨M, rfl, e2, _, e3⟩ := line_inv h1
  obtain ⟨e4, e5⟩ := bytes_inv h
  have e4 : s.size = M := e4
  refine ⟨by omega, ?_⟩
  rw [e3, e5]
  unfold bulkL
  rw [size_list, e4]
  simp
theorem words_fwd : ∀ (ws out : List ByteArray) (l : List UInt8), (∀ x ∈ ws, x.size ≤ 512) → wordsA ws.length out (bodyL ws ++ l) = .ok (out ++ ws) l := by
  intro ws
  induction ws with
  | nil => intro out l _; simp [wordsA, bodyL]
  | cons x t ih =>
    intro out l h
    show (wordP (bulkL x.toList ++ bodyL t ++ l)).bind _ = _
    rw [List.append_assoc, word_fwd x (h x (by simp))]
    show wordsA t.length (out ++ [x]) (bodyL t ++ l) = _
    rw [ih _ _ (fun y hy => h y (by simp [hy]))]
    simp
theorem words_inv : ∀ (k : Nat) (out : List ByteArray) (l : List UInt8) (ws : List ByteArray) (l' : List UInt8), wordsA k out l = .ok ws l' → ∃ xs, ws = out ++ xs ∧ xs.length = k ∧ (∀ x ∈ xs, x.size ≤ 512) ∧ l = bodyL xs ++ l' := by
  intro k
  induction k with
  | zero => intro out l ws l' h; injection h with h1 h2; exact ⟨[], by simp [h1], rfl, by simp, by rw [h2]; rfl⟩
  | succ k ih =>
    intro out l ws l' h
    unfold wordsA at h
    obtain ⟨x, l1, h1, h⟩ := bind_ok h
    obtain ⟨xs, e3, e4, e5, e6⟩ := ih _ _ _ _ h
    obtain ⟨e1, e2⟩ := word_inv h1
    refine ⟨x :: xs, by rw [e3]; simp, by simp [e4], fun y hy => ?_, ?_⟩
    · rcases List.mem_cons.1 hy with rfl | hy
      · exact e1
      · exact e5 y hy
    · rw [e2, e6]
      show _ = bulkL x.toList ++ bodyL xs ++ l'
      rw [List.append_assoc]
/-- A frame is read as its words, whatever stands behind it. -/
theorem cmd_fwd {ws : List ByteArray} (h : goodW ws) (l : List UInt8) : cmdP (frameL ws ++ l) = .ok ws l := by
  unfold cmdP frameL headL
  have h1 := h.1
  rw [show 42 :: decL (ws.length : Int) ++ crlf ++ (ws.flatMap fun x => bulkL x.toList) ++ l = 42 :: decL (ws.length : Int) ++ crlf ++ (bodyL ws ++ l) by simp [bodyL], line_fwd (by omega) (by omega)]
  show wordsA ws.length [] (bodyL ws ++ l) = _
  rw [words_fwd ws [] l h.2]
  rfl
theorem cmd_inv {l l' : List UInt8} {ws : List ByteArray} (h : cmdP l = .ok ws l') : goodW ws ∧ l = frameL ws ++ l' := by
  unfold cmdP at h
  obtain ⟨n, l1, h1, h⟩ := bind_ok h
  obtain ⟨M, rfl, e2, _, e3⟩ := line_inv h1
  obtain ⟨xs, e4, e5, e6, e7⟩ := words_inv _ _ _ _ _ h
  have e5 : xs.length = M := e5
  simp only [List.nil_append] at e4
  subst e4
  refine ⟨⟨by omega, e6⟩, ?_⟩
  rw [e3, e7]
  unfold frameL headL
  rw [e5]
  show _ = 42 :: decL (M : Int) ++ crlf ++ bodyL ws ++ l'
  simp
theorem frame_inj {a b : List ByteArray} (ha : goodW a) (hb : goodW b) (h : frameL a = frameL b) : a = b := by
  have h1 := cmd_fwd ha []
  have h2 := cmd_fwd hb []
  rw [h, h2] at h1
  injection h1 with h1
  exact h1.symm
theorem frame_short {ws : List ByteArray} (h : goodW ws) {l m : List UInt8} (he : frameL ws = l ++ m) (hm : m ≠ []) : cmdP l = .er 3 :=
  short_of pre_cmd (by have := cmd_fwd h []; rw [List.append_nil, he] at this; exact this) hm

/-! ### all commands of bytes -/
theorem rd_app : ∀ (n : Nat) (a b : List UInt8), a.length ≤ n → rdAll (a ++ b) = if (rdAll a).2.2 = true then rdAll a else ((rdAll a).1 ++ (rdAll ((rdAll a).2.1 ++ b)).1, (rdAll ((rdAll a).2.1 ++ b)).2) := by
  intro n
  induction n with
  | zero =>
    intro a b hn
    obtain rfl : a = [] := List.eq_nil_of_length_eq_zero (by omega)
    have e : cmdP [] = .er 3 := rfl
    rw [rdAll_er e, if_pos rfl]
    simp
  | succ n ih =>
    intro a b hn
    cases hc : cmdP a with
    | er c =>
      by_cases h3 : c = 3
      · subst h3
        rw [rdAll_er hc, if_pos rfl]
        simp
      · have := (pre_cmd a b).2 c h3 hc
        rw [rdAll_er this, rdAll_er hc, if_neg h3, if_neg h3, if_pos rfl]
    | ok ws l' =>
      have := (pre_cmd a b).1 ws l' hc
      have hl := cmd_len hc
      rw [rdAll_ok this, rdAll_ok hc, ih l' b (by omega)]
      by_cases hd : (rdAll l').2.2 = true
      · simp [hd]
      · simp [hd]
        by_cases hw : ws = []
        · simp [hw]
        · simp [hw]
theorem rd_nil : rdAll [] = ([], [], false) := by
  have e : cmdP [] = .er 3 := rfl
  rw [rdAll_er e, if_pos rfl]
theorem rd_frame {ws : List ByteArray} (h : goodW ws) (l : List UInt8) : rdAll (frameL ws ++ l) = (if ws.length = 0 then (rdAll l).1 else ⟨ws, 0⟩ :: (rdAll l).1, (rdAll l).2) := rdAll_ok (cmd_fwd h l)
theorem rd_short {ws : List ByteArray} (h : goodW ws) {l m : List UInt8} (he : frameL ws = l ++ m) (hm : m ≠ []) : rdAll l = ([], l, false) := by
  rw [rdAll_er (frame_short h he hm), if_pos rfl]
end Go.Proofs.Ytdbboooblbdihaa
