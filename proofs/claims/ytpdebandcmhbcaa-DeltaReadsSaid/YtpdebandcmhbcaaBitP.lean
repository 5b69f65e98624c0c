/- The plain law of bits: a number's bits, bytes that have bits, the number that bits are; no program here. -/
namespace Go.Proofs.Ytpdebandcmhbcaa
namespace Bit

/-- A number in so many bits, the highest first. -/
def bitsOf (u n : Nat) : List Bool := (List.range n).map fun i => u.testBit (n - 1 - i)
theorem length_bitsOf (u n : Nat) : (bitsOf u n).length = n := by simp [bitsOf]
theorem bitsOf_get (u n i : Nat) (h : i < n) : (bitsOf u n).getD i false = u.testBit (n - 1 - i) := by
  simp [bitsOf, List.getD_eq_getElem?_getD, h]
theorem bitsOf_take (u n k : Nat) (h : k ≤ n) : (bitsOf u n).take k = (List.range k).map fun i => u.testBit (n - 1 - i) := by
  rw [bitsOf, ← List.map_take, List.take_range, Nat.min_eq_left h]
theorem bitsOf_step (u n k : Nat) (h : k < n) : (bitsOf u n).take (k + 1) = (bitsOf u n).take k ++ [u.testBit (n - 1 - k)] := by
  rw [bitsOf_take _ _ _ (by omega), bitsOf_take _ _ _ (by omega), List.range_succ, List.map_append]; rfl

/-- The bytes that have bits. -/
def Packed (l : List Bool) (bs : List UInt8) : Prop :=
  bs.length = (l.length + 7) / 8 ∧ ∀ j i, j < bs.length → i < 8 → (bs.getD j 0).toNat.testBit (7 - i) = l.getD (8 * j + i) false

theorem Packed.nil : Packed [] [] := ⟨rfl, fun j i hj => by simp at hj⟩

theorem byte_ext {x y : UInt8} (h : ∀ i, i < 8 → x.toNat.testBit (7 - i) = y.toNat.testBit (7 - i)) : x = y := by
  apply UInt8.toNat_inj.1
  apply Nat.eq_of_testBit_eq
  intro k
  rcases Nat.lt_or_ge k 8 with hk | hk
  · have := h (7 - k) (by omega)
    rwa [show 7 - (7 - k) = k by omega] at this
  · rw [Nat.testBit_lt_two_pow, Nat.testBit_lt_two_pow]
    · exact Nat.lt_of_lt_of_le y.toNat_lt (by show 2 ^ 8 ≤ _; exact Nat.pow_le_pow_right (by omega) hk)
    · exact Nat.lt_of_lt_of_le x.toNat_lt (by show 2 ^ 8 ≤ _; exact Nat.pow_le_pow_right (by omega) hk)

theorem Packed.uniq {l : List Bool} {bs cs : List UInt8} (h : Packed l bs) (k : Packed l cs) : bs = cs := by
  apply List.ext_getElem?
  intro j
  have hl : bs.length = cs.length := h.1.trans k.1.symm
  rcases Nat.lt_or_ge j bs.length with hj | hj
  · have hj' : j < cs.length := by omega
    rw [List.getElem?_eq_getElem hj, List.getElem?_eq_getElem hj']
    congr 1
    apply byte_ext
    intro i hi
    have h1 := h.2 j i hj hi
    have h2 := k.2 j i hj' hi
    rw [List.getD_eq_getElem?_getD, List.getElem?_eq_getElem hj] at h1
    rw [List.getD_eq_getElem?_getD, List.getElem?_eq_getElem hj'] at h2
    exact h1.trans h2.symm
  · rw [List.getElem?_eq_none hj, List.getElem?_eq_none (by omega)]

theorem getD_snoc (l : List Bool) (x : Bool) (k : Nat) : (l ++ [x]).getD k false = if k = l.length then x else l.getD k false := by
  rw [List.getD_eq_getElem?_getD, List.getD_eq_getElem?_getD]
  split
  · rename_i h; subst h; simp
  · rename_i h
    rcases Nat.lt_or_ge k l.length with h' | h'
    · rw [List.getElem?_append_left h']
    · rw [List.getElem?_eq_none (by simp; omega), List.getElem?_eq_none h']

theorem testBit_one_shift (x : Bool) (s i : Nat) : (x.toNat <<< s).testBit i = (x && decide (i = s)) := by
  rw [Nat.testBit_shiftLeft]
  cases x
  · simp
  · rcases Nat.lt_or_ge i s with h | h
    · have h1 : ¬ s ≤ i := by omega
      have h2 : ¬ i = s := by omega
      simp [h1, h2]
    · by_cases e : i = s
      · subst e; simp
      · simp [e, h]
        rw [show i - s = (i - s - 1) + 1 by omega]
        simp [Nat.testBit_succ]

/-- One bit more, in the byte that is there. -/
theorem Packed.set {l : List Bool} {bs : List UInt8} (h : Packed l bs) (x : Bool) (y : UInt8) (hr : l.length % 8 ≠ 0)
    (hy : y.toNat = (bs.getD (l.length / 8) 0).toNat ||| (x.toNat <<< (7 - l.length % 8))) : Packed (l ++ [x]) (bs.set (l.length / 8) y) := by
  obtain ⟨h1, h2⟩ := h
  refine ⟨by rw [List.length_set, h1]; simp; omega, fun j i hj hi => ?_⟩
  rw [List.length_set] at hj
  rw [getD_snoc]
  by_cases hj' : j = l.length / 8
  · subst hj'
    have e : (bs.set (l.length / 8) y).getD (l.length / 8) 0 = y := by
      rw [List.getD_eq_getElem?_getD, List.getElem?_set_self hj]; rfl
    rw [e, hy, Nat.testBit_or, h2 _ i hj hi, testBit_one_shift]
    have hlast : i = l.length % 8 → l.getD (8 * (l.length / 8) + i) false = false := by
      intro hh
      rw [List.getD_eq_getElem?_getD, List.getElem?_eq_none (by omega)]; rfl
    by_cases hi' : i = l.length % 8
    · rw [hlast hi', if_pos (by omega), hi']; simp
    · rw [if_neg (by omega)]
      have : decide (7 - i = 7 - l.length % 8) = false := by simp; omega
      rw [this]; simp
  · have e : (bs.set (l.length / 8) y).getD j 0 = bs.getD j 0 := by
      rw [List.getD_eq_getElem?_getD, List.getElem?_set_ne (by omega), List.getD_eq_getElem?_getD]
    rw [e, h2 j i hj hi, if_neg (by omega)]

/-- One bit more, in a new byte. -/
theorem Packed.new {l : List Bool} {bs : List UInt8} (h : Packed l bs) (x : Bool) (y : UInt8) (hr : l.length % 8 = 0) (hy : y.toNat = x.toNat <<< 7) : Packed (l ++ [x]) (bs ++ [y]) := by
  obtain ⟨h1, h2⟩ := h
  refine ⟨by simp [h1]; omega, fun j i hj hi => ?_⟩
  rw [getD_snoc]
  rw [List.length_append, List.length_singleton] at hj
  by_cases hj' : j = bs.length
  · subst hj'
    have e : (bs ++ [y]).getD bs.length 0 = y := by simp [List.getD_eq_getElem?_getD]
    rw [e, hy, testBit_one_shift]
    by_cases hi' : i = 0
    · subst hi'
      rw [if_pos (by omega)]; simp
    · rw [if_neg (by omega), List.getD_eq_getElem?_getD, List.getElem?_eq_none (by omega)]
      have : decide (7 - i = 7) = false := by simp; omega
      rw [this]; simp
  · have e : (bs ++ [y]).getD j 0 = bs.getD j 0 := by
      rw [List.getD_eq_getElem?_getD, List.getElem?_append_left (by omega), List.getD_eq_getElem?_getD]
    rw [e, h2 j i (by omega) hi, if_neg (by omega)]

/-- The number that bits are. -/
def num (l : List Bool) : Nat := l.foldl (fun u b => 2 * u + b.toNat) 0
theorem num_snoc (l : List Bool) (b : Bool) : num (l ++ [b]) = 2 * num l + b.toNat := by simp [num, List.foldl_append]
theorem fold_lt : ∀ (l : List Bool) (acc : Nat), l.foldl (fun u b => 2 * u + b.toNat) acc < (acc + 1) * 2 ^ l.length
  | [], acc => by simp
  | b :: l, acc => by
    have h1 := fold_lt l (2 * acc + b.toNat)
    have h2 : b.toNat ≤ 1 := by cases b <;> simp
    have h3 : (2 * acc + b.toNat + 1) * 2 ^ l.length ≤ (2 * acc + 2) * 2 ^ l.length := Nat.mul_le_mul_right _ (by omega)
    rw [List.foldl_cons, List.length_cons, Nat.pow_succ]
    have h4 : (2 * acc + 2) * 2 ^ l.length = (acc + 1) * (2 ^ l.length * 2) := by
      rw [show 2 * acc + 2 = (acc + 1) * 2 by omega, Nat.mul_assoc, Nat.mul_comm 2]
    omega
theorem num_lt (l : List Bool) : num l < 2 ^ l.length := by
  have := fold_lt l 0
  simpa [num] using this
theorem num_take (u n k : Nat) (h : k ≤ n) : num ((bitsOf u n).take k) = (u >>> (n - k)) % 2 ^ k := by
  induction k with
  | zero => simp [num, Nat.mod_one]
  | succ k ih =>
    rw [bitsOf_step u n k (by omega), num_snoc, ih (by omega)]
    have e : u >>> (n - k) = (u >>> (n - (k + 1))) / 2 := by
      rw [show n - k = (n - (k + 1)) + 1 by omega, Nat.shiftRight_succ]
    rw [e]
    have e2 : u.testBit (n - 1 - k) = decide ((u >>> (n - (k + 1))) % 2 = 1) := by
      rw [show n - 1 - k = n - (k + 1) by omega, Nat.testBit_eq_decide_div_mod_eq, Nat.shiftRight_eq_div_pow]
    rw [e2]
    generalize u >>> (n - (k + 1)) = x
    rw [Nat.pow_succ, Nat.mul_comm (2 ^ k) 2, Nat.mod_mul]
    have : (decide (x % 2 = 1)).toNat = x % 2 := by
      rcases Nat.mod_two_eq_zero_or_one x with h | h <;> simp [h]
    omega
theorem num_bitsOf (u n : Nat) : num (bitsOf u n) = u % 2 ^ n := by
  have := num_take u n n (Nat.le_refl _)
  rwa [List.take_of_length_le (by rw [length_bitsOf]; omega), Nat.sub_self, Nat.shiftRight_zero] at this
theorem num_fits {u n : Nat} (h : u < 2 ^ n) : num (bitsOf u n) = u := by rw [num_bitsOf, Nat.mod_eq_of_lt h]

end Bit
end Go.Proofs.Ytpdebandcmhbcaa
