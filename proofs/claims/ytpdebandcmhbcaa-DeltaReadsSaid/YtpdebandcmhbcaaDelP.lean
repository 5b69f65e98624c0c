/- The plain law of delta: a number's code. -/
import Derived.Test.YtpdebandcmhbcaaBitI
namespace Go.Proofs.Ytpdebandcmhbcaa
open Go.RowKit Bit
set_option linter.unusedVariables false

def classN (u : Nat) : Nat := if u < 1 then 0 else if u < 128 then 1 else if u < 4096 then 2 else if u < 16777216 then 3 else 4
def widthN (k : Nat) : Nat := match k with | 0 => 0 | 1 => 7 | 2 => 12 | 3 => 24 | _ => 64
def headN (k : Nat) : Nat := match k with | 0 => 1 | 1 => 2 | 2 => 3 | _ => 4
def preN (k : Nat) : Nat := match k with | 0 => 0 | 1 => 2 | 2 => 6 | 3 => 14 | _ => 15
def preB (k : Nat) : List Bool := match k with | 0 => [false] | 1 => [true, false] | 2 => [true, true, false] | 3 => [true, true, true, false] | _ => [true, true, true, true]
def codeB (u : Nat) : List Bool := preB (classN u) ++ bitsOf u (widthN (classN u))
def sizeN (u : Nat) : Nat := headN (classN u) + widthN (classN u)

theorem class_le (u : Nat) : classN u ≤ 4 := by unfold classN; split <;> (try split) <;> (try split) <;> (try split) <;> omega
theorem class_cases (u : Nat) : (classN u = 0 ∧ u < 1) ∨ (classN u = 1 ∧ 1 ≤ u ∧ u < 128) ∨ (classN u = 2 ∧ 128 ≤ u ∧ u < 4096) ∨ (classN u = 3 ∧ 4096 ≤ u ∧ u < 16777216) ∨ (classN u = 4 ∧ 16777216 ≤ u) := by
  unfold classN; split <;> (try split) <;> (try split) <;> (try split) <;> omega
theorem preB_len (k : Nat) : (preB k).length = headN k := by
  match k with | 0 => rfl | 1 => rfl | 2 => rfl | 3 => rfl | n + 4 => rfl
theorem codeB_len (u : Nat) : (codeB u).length = sizeN u := by rw [codeB, List.length_append, preB_len, length_bitsOf, sizeN]
theorem pre_bits (k : Nat) (hk : k ≤ 4) : bitsOf (preN k) (headN k) = preB k := by
  match k with | 0 => rfl | 1 => rfl | 2 => rfl | 3 => rfl | 4 => rfl | n + 5 => omega
theorem pre_fits (k : Nat) (hk : k ≤ 4) : preN k < 2 ^ headN k := by
  match k with | 0 => decide | 1 => decide | 2 => decide | 3 => decide | 4 => decide | n + 5 => omega
theorem class_fits (u : Nat) (hu : u < 18446744073709551616) : u < 2 ^ widthN (classN u) := by
  rcases class_cases u with ⟨h, h1⟩ | ⟨h, _, h1⟩ | ⟨h, _, h1⟩ | ⟨h, _, h1⟩ | ⟨h, h1⟩ <;> rw [h] <;> simp only [widthN] <;> omega
theorem head_le (k : Nat) : headN k ≤ 4 := by
  match k with | 0 => decide | 1 => decide | 2 => decide | 3 => decide | n + 4 => exact Nat.le_refl _
theorem head_pos (k : Nat) : 1 ≤ headN k := by
  match k with | 0 => decide | 1 => decide | 2 => decide | 3 => decide | n + 4 => show 1 ≤ 4; omega
theorem width_le (k : Nat) : widthN k ≤ 64 := by
  match k with | 0 => decide | 1 => decide | 2 => decide | 3 => decide | n + 4 => exact Nat.le_refl _
theorem size_le (u : Nat) : sizeN u ≤ 68 := by have := head_le (classN u); have := width_le (classN u); unfold sizeN; omega
theorem size_pos (u : Nat) : 1 ≤ sizeN u := by have := head_pos (classN u); unfold sizeN; omega

/-- The ones that bits begin with, four at most. -/
def onesB : Nat → List Bool → Nat
  | 0, _ => 0
  | _ + 1, [] => 0
  | n + 1, b :: l => if b then onesB n l + 1 else 0
/-- Of bits: the number, how many bits its code has, or what is wrong (3: short, 4: form). -/
def getB (l : List Bool) : Nat × Nat × Int :=
  let k := onesB 4 l
  if k < 4 ∧ k = l.length then (0, 0, 3)
  else if l.length < headN k + widthN k then (0, 0, 3)
  else
    let u := num ((l.drop (headN k)).take (widthN k))
    if classN u ≠ k then (0, 0, 4) else (u, headN k + widthN k, 0)
theorem ones_le : ∀ (n : Nat) (l : List Bool), onesB n l ≤ n
  | 0, _ => Nat.le_refl _
  | n + 1, [] => by simp [onesB]
  | n + 1, b :: l => by
    have := ones_le n l
    unfold onesB
    split <;> omega
theorem ones_len : ∀ (n : Nat) (l : List Bool), onesB n l ≤ l.length
  | 0, _ => by simp [onesB]
  | n + 1, [] => by simp [onesB]
  | n + 1, b :: l => by
    have := ones_len n l
    unfold onesB
    split <;> simp <;> omega
theorem ones_at : ∀ (n : Nat) (l : List Bool) (j : Nat), j < onesB n l → l[j]? = some true
  | 0, l, j, h => by simp [onesB] at h
  | n + 1, [], j, h => by simp [onesB] at h
  | n + 1, b :: l, j, h => by
    unfold onesB at h
    split at h
    · rename_i hb
      cases j with
      | zero => simpa using hb
      | succ j => simpa using ones_at n l j (by omega)
    · omega
theorem ones_end : ∀ (n : Nat) (l : List Bool), onesB n l < n → onesB n l < l.length → l[onesB n l]? = some false
  | 0, _, h, _ => by omega
  | n + 1, [], _, h => by simp at h
  | n + 1, b :: l, h, h2 => by
    unfold onesB at h h2 ⊢
    cases b with
    | true => simp only [if_true, List.length_cons] at h h2 ⊢; rw [List.getElem?_cons_succ]; exact ones_end n l (by omega) (by omega)
    | false => rfl
theorem sizes_differ {a b : Nat} (ha : a ≤ 4) (hb : b ≤ 4) : headN a + widthN a = headN b + widthN b ↔ a = b := by
  constructor
  · intro h
    match a, b with
    | 0, 0 => rfl | 1, 1 => rfl | 2, 2 => rfl | 3, 3 => rfl | 4, 4 => rfl
    | 0, 1 => simp [headN, widthN] at h | 0, 2 => simp [headN, widthN] at h | 0, 3 => simp [headN, widthN] at h | 0, 4 => simp [headN, widthN] at h
    | 1, 0 => simp [headN, widthN] at h | 1, 2 => simp [headN, widthN] at h | 1, 3 => simp [headN, widthN] at h | 1, 4 => simp [headN, widthN] at h
    | 2, 0 => simp [headN, widthN] at h | 2, 1 => simp [headN, widthN] at h | 2, 3 => simp [headN, widthN] at h | 2, 4 => simp [headN, widthN] at h
    | 3, 0 => simp [headN, widthN] at h | 3, 1 => simp [headN, widthN] at h | 3, 2 => simp [headN, widthN] at h | 3, 4 => simp [headN, widthN] at h
    | 4, 0 => simp [headN, widthN] at h | 4, 1 => simp [headN, widthN] at h | 4, 2 => simp [headN, widthN] at h | 4, 3 => simp [headN, widthN] at h
    | n + 5, _ => omega
    | _, n + 5 => omega
  · rintro rfl; rfl
/-- A code is read as its number, whatever stands behind it. -/
theorem get_code (u : Nat) (hu : u < 18446744073709551616) (r : List Bool) : getB (codeB u ++ r) = (u, sizeN u, 0) := by
  have hk : onesB 4 (codeB u ++ r) = classN u := by
    unfold codeB
    rcases class_cases u with ⟨h, _⟩ | ⟨h, _⟩ | ⟨h, _⟩ | ⟨h, _⟩ | ⟨h, _⟩ <;> rw [h] <;> simp [preB, onesB]
  have hd : ((codeB u ++ r).drop (headN (classN u))).take (widthN (classN u)) = bitsOf u (widthN (classN u)) := by
    unfold codeB
    rw [List.append_assoc, ← preB_len, List.drop_left, List.take_append_of_le_length (by rw [length_bitsOf]; exact Nat.le_refl _), List.take_of_length_le (by rw [length_bitsOf]; exact Nat.le_refl _)]
  have hl : (codeB u ++ r).length = headN (classN u) + widthN (classN u) + r.length := by rw [List.length_append, codeB_len, sizeN]
  unfold getB
  simp only [hk]
  have := head_pos (classN u)
  rw [if_neg (by
    rintro ⟨h1, h2⟩
    rw [hl] at h2
    rcases class_cases u with ⟨h, _⟩ | ⟨h, _⟩ | ⟨h, _⟩ | ⟨h, _⟩ | ⟨h, _⟩ <;> rw [h] at h2 <;> simp [headN, widthN] at h2 <;> omega), if_neg (by omega), hd, num_fits (class_fits u hu), if_neg (by simp)]
  rfl
/-- What is read is a code. -/
theorem code_get {l : List Bool} {u n : Nat} (h : getB l = (u, n, 0)) : u < 18446744073709551616 ∧ n = sizeN u ∧ n ≤ l.length ∧ l = codeB u ++ l.drop n := by
  unfold getB at h
  simp only at h
  split at h
  · simp at h
  split at h
  · simp at h
  split at h
  · simp at h
  rename_i h1 h2 h3
  simp only [ne_eq, Decidable.not_not, Prod.mk.injEq] at h3 h
  obtain ⟨hu, hn, _⟩ := h
  rw [hu] at h3
  have hlen : ((l.drop (headN (onesB 4 l))).take (widthN (onesB 4 l))).length = widthN (onesB 4 l) := by rw [List.length_take, List.length_drop]; omega
  have hub : bitsOf u (widthN (onesB 4 l)) = (l.drop (headN (onesB 4 l))).take (widthN (onesB 4 l)) := by
    rw [← hu]
    have := bitsOf_num ((l.drop (headN (onesB 4 l))).take (widthN (onesB 4 l)))
    rwa [hlen] at this
  have hult : u < 2 ^ widthN (onesB 4 l) := by
    rw [← hu]
    have := num_lt ((l.drop (headN (onesB 4 l))).take (widthN (onesB 4 l)))
    rwa [hlen] at this
  refine ⟨Nat.lt_of_lt_of_le hult (by
    have := Nat.pow_le_pow_right (n := 2) (by omega) (width_le (onesB 4 l))
    simpa using this), by rw [← hn, sizeN, h3], by rw [← hn]; omega, ?_⟩
  have hpre : l.take (headN (onesB 4 l)) = preB (onesB 4 l) := by
    have hle := ones_le 4 l
    have hol := ones_len 4 l
    have ha := ones_at 4 l
    have he := ones_end 4 l
    apply List.ext_getElem?
    intro i
    rw [List.getElem?_take]
    generalize onesB 4 l = k at *
    match k, hle with
    | 0, _ =>
      simp only [headN, preB]
      match i with
      | 0 => simpa using he (by omega) (by omega)
      | n + 1 => simp
    | 1, _ =>
      simp only [headN, preB]
      match i with
      | 0 => simpa using ha 0 (by omega)
      | 1 => simpa using he (by omega) (by omega)
      | n + 2 => simp; omega
    | 2, _ =>
      simp only [headN, preB]
      match i with
      | 0 => simpa using ha 0 (by omega)
      | 1 => simpa using ha 1 (by omega)
      | 2 => simpa using he (by omega) (by omega)
      | n + 3 => simp; omega
    | 3, _ =>
      simp only [headN, preB]
      match i with
      | 0 => simpa using ha 0 (by omega)
      | 1 => simpa using ha 1 (by omega)
      | 2 => simpa using ha 2 (by omega)
      | 3 => simpa using he (by omega) (by omega)
      | n + 4 => simp; omega
    | 4, _ =>
      simp only [headN, preB]
      match i with
      | 0 => simpa using ha 0 (by omega)
      | 1 => simpa using ha 1 (by omega)
      | 2 => simpa using ha 2 (by omega)
      | 3 => simpa using ha 3 (by omega)
      | n + 4 => simp; omega
    | n + 5, h => omega
  unfold codeB
  rw [h3, hub, ← hpre, ← hn]
  rw [← List.take_add]
  exact (List.take_append_drop _ l).symm
end Go.Proofs.Ytpdebandcmhbcaa
