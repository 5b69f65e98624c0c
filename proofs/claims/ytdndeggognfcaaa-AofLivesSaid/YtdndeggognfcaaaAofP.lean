/- The plain law of package aof: the sum of bytes, frames, what is read of a text. -/
import Derived.Test.YtdndeggognfcaaaLib
namespace Go.Proofs.Ytdndeggognfcaaa
set_option linter.unusedVariables false
set_option maxRecDepth 100000
namespace Crc
def pol : Nat := 3988292384
def f1 (n : Nat) : Nat := (n / 2) ^^^ (if n % 2 = 1 then pol else 0)
def f8 (n : Nat) : Nat := f1 (f1 (f1 (f1 (f1 (f1 (f1 (f1 n)))))))
theorem div_xor (a b : Nat) : (a ^^^ b) / 2 = (a / 2) ^^^ (b / 2) := by
  apply Nat.eq_of_testBit_eq
  intro i
  rw [Nat.testBit_div_two, Nat.testBit_xor, Nat.testBit_xor, Nat.testBit_div_two, Nat.testBit_div_two]
theorem mod_xor (a b : Nat) : ((a ^^^ b) % 2 = 1) ↔ ¬ ((a % 2 = 1) ↔ (b % 2 = 1)) := by
  have h := Nat.testBit_xor (x := a) (y := b) (i := 0)
  rw [Nat.testBit_zero, Nat.testBit_zero, Nat.testBit_zero] at h
  by_cases h1 : a % 2 = 1 <;> by_cases h2 : b % 2 = 1 <;> simp_all
theorem f1_xor (a b : Nat) : f1 (a ^^^ b) = f1 a ^^^ f1 b := by
  unfold f1
  rw [div_xor]
  by_cases h1 : a % 2 = 1 <;> by_cases h2 : b % 2 = 1
  · rw [if_neg (by rw [mod_xor]; simp [h1, h2]), if_pos h1, if_pos h2]
    apply Nat.eq_of_testBit_eq
    intro i
    simp only [Nat.testBit_xor, Nat.zero_testBit]
    cases (a / 2).testBit i <;> cases (b / 2).testBit i <;> cases pol.testBit i <;> rfl
  · rw [if_pos (by rw [mod_xor]; simp [h1, h2]), if_pos h1, if_neg h2]
    apply Nat.eq_of_testBit_eq
    intro i
    simp only [Nat.testBit_xor, Nat.zero_testBit]
    cases (a / 2).testBit i <;> cases (b / 2).testBit i <;> cases pol.testBit i <;> rfl
  · rw [if_pos (by rw [mod_xor]; simp [h1, h2]), if_neg h1, if_pos h2]
    apply Nat.eq_of_testBit_eq
    intro i
    simp only [Nat.testBit_xor, Nat.zero_testBit]
    cases (a / 2).testBit i <;> cases (b / 2).testBit i <;> cases pol.testBit i <;> rfl
  · rw [if_neg (by rw [mod_xor]; simp [h1, h2]), if_neg h1, if_neg h2]
    apply Nat.eq_of_testBit_eq
    intro i
    simp only [Nat.testBit_xor, Nat.zero_testBit]
    cases (a / 2).testBit i <;> cases (b / 2).testBit i <;> rfl
theorem f8_xor (a b : Nat) : f8 (a ^^^ b) = f8 a ^^^ f8 b := by simp only [f8, f1_xor]
theorem f1_two (k : Nat) : f1 (2 * k) = k := by
  unfold f1
  rw [if_neg (by omega), Nat.mul_div_cancel_left k (by decide), Nat.xor_zero]
theorem f8_high (h : Nat) : f8 (256 * h) = h := by
  have e : 256 * h = 2 * (2 * (2 * (2 * (2 * (2 * (2 * (2 * h))))))) := by omega
  rw [e]
  simp only [f8, f1_two]
theorem split8 (n : Nat) : n = (256 * (n / 256)) ^^^ (n % 256) := by
  apply Nat.eq_of_testBit_eq
  intro i
  rw [Nat.testBit_xor, show (256 : Nat) = 2 ^ 8 from rfl, Nat.testBit_two_pow_mul, Nat.testBit_mod_two_pow, Nat.testBit_div_two_pow]
  by_cases h : i < 8
  · rw [decide_eq_false (by omega : ¬ 8 ≤ i), decide_eq_true h]; simp
  · rw [decide_eq_true (by omega : 8 ≤ i), decide_eq_false h, Nat.sub_add_cancel (by omega)]; simp
theorem step_eq (n c : Nat) : (n / 256) ^^^ f8 ((n % 256) ^^^ c) = f8 (n ^^^ c) := by
  conv => rhs; rw [split8 n, Nat.xor_assoc, f8_xor, f8_high]
theorem pol_lt : pol < 2 ^ 32 := by decide
theorem f1_lt {n : Nat} (h : n < 2 ^ 32) : f1 n < 2 ^ 32 := by
  unfold f1
  apply Nat.xor_lt_two_pow
  · omega
  · split
    · exact pol_lt
    · decide
theorem f8_lt {n : Nat} (h : n < 2 ^ 32) : f8 n < 2 ^ 32 := f1_lt (f1_lt (f1_lt (f1_lt (f1_lt (f1_lt (f1_lt (f1_lt h)))))))
theorem f1_zero {n : Nat} (h : n < 2 ^ 32) (e : f1 n = 0) : n = 0 := by
  unfold f1 at e
  by_cases h1 : n % 2 = 1
  · rw [if_pos h1] at e
    have := congrArg (fun x => x.testBit 31) e
    simp only [Nat.testBit_xor, Nat.zero_testBit] at this
    rw [Nat.testBit_lt_two_pow (by omega : n / 2 < 2 ^ 31)] at this
    exact absurd this (by decide)
  · rw [if_neg h1, Nat.xor_zero] at e
    omega
theorem xor_eq_zero' {a b : Nat} (h : a ^^^ b = 0) : a = b := by
  apply Nat.eq_of_testBit_eq
  intro i
  have := congrArg (fun x => x.testBit i) h
  simp only [Nat.testBit_xor, Nat.zero_testBit] at this
  cases ha : a.testBit i <;> cases hb : b.testBit i <;> simp_all
theorem f1_inj {a b : Nat} (ha : a < 2 ^ 32) (hb : b < 2 ^ 32) (h : f1 a = f1 b) : a = b :=
  xor_eq_zero' (f1_zero (Nat.xor_lt_two_pow ha hb) (by rw [f1_xor, h, Nat.xor_self]))
theorem f8_inj {a b : Nat} (ha : a < 2 ^ 32) (hb : b < 2 ^ 32) (h : f8 a = f8 b) : a = b := by
  unfold f8 at h
  have l (n) (h : n < 2 ^ 32) := f1_lt h
  exact f1_inj ha hb (f1_inj (l _ ha) (l _ hb) (f1_inj (l _ (l _ ha)) (l _ (l _ hb)) (f1_inj (l _ (l _ (l _ ha))) (l _ (l _ (l _ hb)))
    (f1_inj (l _ (l _ (l _ (l _ ha)))) (l _ (l _ (l _ (l _ hb)))) (f1_inj (l _ (l _ (l _ (l _ (l _ ha))))) (l _ (l _ (l _ (l _ (l _ hb)))))
    (f1_inj (l _ (l _ (l _ (l _ (l _ (l _ ha)))))) (l _ (l _ (l _ (l _ (l _ (l _ hb)))))) (f1_inj (l _ (l _ (l _ (l _ (l _ (l _ (l _ ha))))))) (l _ (l _ (l _ (l _ (l _ (l _ (l _ hb)))))))  h)))))))
/-- The register behind a byte. -/
def st (n : Nat) (c : UInt8) : Nat := f8 (n ^^^ c.toNat)
def run (l : List UInt8) : Nat := l.foldl st 4294967295
def crcL (l : List UInt8) : Nat := 4294967295 - run l
theorem st_lt {n : Nat} (c : UInt8) (h : n < 2 ^ 32) : st n c < 2 ^ 32 := f8_lt (Nat.xor_lt_two_pow h (Nat.lt_of_lt_of_le c.toNat_lt (by decide)))
theorem run_lt (l : List UInt8) : ∀ n, n < 2 ^ 32 → l.foldl st n < 2 ^ 32 := by
  induction l with
  | nil => intro n h; exact h
  | cons c l ih => intro n h; exact ih _ (st_lt c h)
theorem st_inj {a b : Nat} (c : UInt8) (ha : a < 2 ^ 32) (hb : b < 2 ^ 32) (h : st a c = st b c) : a = b := by
  have hc : c.toNat < 2 ^ 32 := Nat.lt_of_lt_of_le c.toNat_lt (by decide)
  have := f8_inj (Nat.xor_lt_two_pow ha hc) (Nat.xor_lt_two_pow hb hc) h
  have h2 := congrArg (fun x => x ^^^ c.toNat) this
  simpa [Nat.xor_assoc] using h2
theorem st_inj2 {a : Nat} {c d : UInt8} (ha : a < 2 ^ 32) (h : st a c = st a d) : c = d := by
  have hc : c.toNat < 2 ^ 32 := Nat.lt_of_lt_of_le c.toNat_lt (by decide)
  have hd : d.toNat < 2 ^ 32 := Nat.lt_of_lt_of_le d.toNat_lt (by decide)
  have := f8_inj (Nat.xor_lt_two_pow ha hc) (Nat.xor_lt_two_pow ha hd) h
  have h2 := congrArg (fun x => a ^^^ x) this
  simp only [← Nat.xor_assoc, Nat.xor_self, Nat.zero_xor] at h2
  exact UInt8.toNat_inj.1 h2
theorem fold_inj (l : List UInt8) : ∀ {a b : Nat}, a < 2 ^ 32 → b < 2 ^ 32 → l.foldl st a = l.foldl st b → a = b := by
  induction l with
  | nil => intro a b _ _ h; exact h
  | cons c l ih => intro a b ha hb h; exact st_inj c ha hb (ih (st_lt c ha) (st_lt c hb) h)
/-- One byte that is another one turns the sum. -/
theorem crc_turn (p q : List UInt8) {c d : UInt8} (h : c ≠ d) : crcL (p ++ c :: q) ≠ crcL (p ++ d :: q) := by
  intro e
  unfold crcL run at e
  rw [List.foldl_append, List.foldl_append, List.foldl_cons, List.foldl_cons] at e
  have hp := run_lt p 4294967295 (by decide)
  have h1 := run_lt q _ (st_lt c hp)
  have h2 := run_lt q _ (st_lt d hp)
  exact h (st_inj2 hp (fold_inj q (st_lt c hp) (st_lt d hp) (by omega)))
/-- A number as four bytes, and back. -/
def four (n : Nat) : List UInt8 := [UInt8.ofNat (n / 16777216), UInt8.ofNat (n / 65536), UInt8.ofNat (n / 256), UInt8.ofNat n]
def num4 : List UInt8 → Nat
  | a :: b :: c :: d :: _ => ((a.toNat * 256 + b.toNat) * 256 + c.toNat) * 256 + d.toNat
  | _ => 0
theorem four_num {n : Nat} (h : n < 4294967296) (t : List UInt8) : num4 (four n ++ t) = n := by
  simp only [four, num4, List.cons_append, UInt8.toNat_ofNat']
  omega
theorem four_len (n : Nat) : (four n).length = 4 := rfl
def good (s : List UInt8) : Prop := 0 < s.length ∧ s.length ≤ 65536
instance (s : List UInt8) : Decidable (good s) := inferInstanceAs (Decidable (_ ∧ _))
/-- A record as it stands. -/
def frm (s : List UInt8) : List UInt8 := if good s then four s.length ++ (s ++ four (crcL s)) else []
def frms (l : List (List UInt8)) : List UInt8 := l.flatMap frm
theorem frm_len {s : List UInt8} (h : good s) : (frm s).length = s.length + 8 := by
  unfold frm
  rw [if_pos h]
  simp only [List.length_append, four_len]
  omega
/-- The record that a text begins with. -/
def fstL (s : List UInt8) : Option (List UInt8) :=
  if 1 ≤ num4 s ∧ num4 s ≤ 65536 ∧ num4 s + 8 ≤ s.length ∧ frm ((s.drop 4).take (num4 s)) = s.take (num4 s + 8) then some ((s.drop 4).take (num4 s)) else none
theorem fst_frm {x : List UInt8} (h : good x) (t : List UInt8) : fstL (frm x ++ t) = some x := by
  have hf : frm x = four x.length ++ (x ++ four (crcL x)) := by unfold frm; rw [if_pos h]
  have hn : num4 (frm x ++ t) = x.length := by rw [hf, List.append_assoc]; exact four_num (by unfold good at h; omega) _
  have hl := frm_len h
  have hd : ((frm x ++ t).drop 4).take x.length = x := by
    rw [hf, List.append_assoc, List.drop_left' (four_len _), List.append_assoc, List.take_left' rfl]
  unfold fstL
  rw [hn, hd, if_pos]
  refine ⟨h.1, h.2, by rw [List.length_append]; omega, ?_⟩
  rw [List.take_left' hl]
theorem fst_some {s x : List UInt8} (h : fstL s = some x) : good x ∧ x.length + 8 ≤ s.length ∧ s = frm x ++ s.drop (x.length + 8) := by
  unfold fstL at h
  split at h
  · rename_i hc
    obtain ⟨h1, h2, h3, h4⟩ := hc
    injection h with h
    have hl : x.length = num4 s := by rw [← h, List.length_take, List.length_drop]; omega
    rw [h] at h4
    refine ⟨⟨by omega, by omega⟩, by omega, ?_⟩
    rw [h4, hl, List.take_append_drop]
  · cases h
/-- The records whose frames stand at the beginning. -/
def readL (s : List UInt8) : List (List UInt8) :=
  match h : fstL s with
  | none => []
  | some x => x :: readL (s.drop (x.length + 8))
termination_by s.length
decreasing_by
  have := fst_some h
  rw [List.length_drop]
  omega
theorem read_none {s : List UInt8} (h : fstL s = none) : readL s = [] := by
  rw [readL]
  split
  · rfl
  · rename_i x hx; rw [h] at hx; cases hx
theorem read_some {s x : List UInt8} (h : fstL s = some x) : readL s = x :: readL (s.drop (x.length + 8)) := by
  rw [readL]
  split
  · rename_i hx; rw [h] at hx; cases hx
  · rename_i y hy; rw [h] at hy; injection hy with hy; subst hy; rfl
theorem read_frm {x : List UInt8} (h : good x) (t : List UInt8) : readL (frm x ++ t) = x :: readL t := by
  rw [read_some (fst_frm h t), List.drop_left' (frm_len h)]
theorem read_frms {l : List (List UInt8)} (h : ∀ x ∈ l, good x) (t : List UInt8) : readL (frms l ++ t) = l ++ readL t := by
  induction l with
  | nil => rfl
  | cons x l ih =>
    show readL (frm x ++ frms l ++ t) = x :: (l ++ readL t)
    rw [List.append_assoc, read_frm (h x (by simp)), ih (fun y hy => h y (by simp [hy]))]
theorem read_nil : readL [] = [] := read_none (by unfold fstL; rw [if_neg]; intro h; have := h.2.2.1; simp at this)
theorem read_frms' {l : List (List UInt8)} (h : ∀ x ∈ l, good x) : readL (frms l) = l := by
  have := read_frms h []
  rwa [List.append_nil, read_nil, List.append_nil] at this
theorem read_good (s : List UInt8) : (∀ x ∈ readL s, good x) ∧ ∃ t, s = frms (readL s) ++ t ∧ fstL t = none := by
  match h : fstL s with
  | none => rw [read_none h]; exact ⟨by simp, s, rfl, h⟩
  | some x =>
    obtain ⟨h1, h2, h3⟩ := fst_some h
    obtain ⟨g1, t, g2, g3⟩ := read_good (s.drop (x.length + 8))
    rw [read_some h]
    refine ⟨fun y hy => ?_, t, ?_, g3⟩
    · rcases List.mem_cons.1 hy with rfl | hy
      · exact h1
      · exact g1 y hy
    · show s = frm x ++ frms _ ++ t
      rw [List.append_assoc, ← g2, ← h3]
termination_by s.length
decreasing_by
  rw [List.length_drop]
  omega
theorem frms_app (a b : List (List UInt8)) : frms (a ++ b) = frms a ++ frms b := by unfold frms; rw [List.flatMap_append]
/-- A frame that is cut off is none. -/
theorem fst_cut {x : List UInt8} (h : good x) (k : Nat) (hk : k < x.length + 8) : fstL ((frm x).take k) = none := by
  match hf : fstL ((frm x).take k) with
  | none => rfl
  | some y =>
    obtain ⟨h1, h2, h3⟩ := fst_some hf
    exfalso
    have hl := frm_len h
    rw [List.length_take] at h2
    have e1 : num4 ((frm x).take k) = y.length := by rw [h3]; unfold frm; rw [if_pos h1, List.append_assoc]; exact four_num (by unfold good at h1; omega) _
    have e2 : num4 (frm x) = x.length := by unfold frm; rw [if_pos h]; exact four_num (by unfold good at h; omega) _
    have e3 : num4 ((frm x).take k) = num4 (frm x) := by
      have h8 : 8 ≤ k := by omega
      obtain ⟨j, rfl⟩ : ∃ j, k = j + 4 := ⟨k - 4, by omega⟩
      unfold frm
      rw [if_pos h]
      rfl
    omega
theorem read_cut {l : List (List UInt8)} (h : ∀ x ∈ l, good x) : ∀ k, k ≤ (frms l).length → ∃ j, j ≤ l.length ∧ readL ((frms l).take k) = l.take j ∧ (frms (l.take j)).length ≤ k ∧ (∀ x, l[j]? = some x → k < (frms (l.take j)).length + x.length + 8) := by
  induction l with
  | nil => intro k hk; exact ⟨0, by simp, by simp [frms, read_nil], by simp [frms], by simp⟩
  | cons x l ih =>
    intro k hk
    have hx := h x (by simp)
    have hl := frm_len hx
    have e : frms (x :: l) = frm x ++ frms l := rfl
    by_cases hk2 : k < x.length + 8
    · refine ⟨0, by simp, ?_, by simp [frms], ?_⟩
      · rw [e, List.take_append_of_le_length (by omega), read_none (fst_cut hx k hk2)]; rfl
      · intro y hy
        simp at hy
        subst hy
        simp [frms]
        omega
    · rw [e, List.length_append, hl] at hk
      obtain ⟨j, h1, h2, h3, h4⟩ := ih (fun y hy => h y (by simp [hy])) (k - (x.length + 8)) (by omega)
      refine ⟨j + 1, by simp; omega, ?_, ?_, ?_⟩
      · rw [e, List.take_append, hl, List.take_of_length_le (by omega), read_frm hx, h2]; rfl
      · show (frm x ++ frms (l.take j)).length ≤ k
        rw [List.length_append, hl]
        omega
      · intro y hy
        have := h4 y (by simpa using hy)
        show k < (frm x ++ frms (l.take j)).length + y.length + 8
        rw [List.length_append, hl]
        omega
end Crc
end Go.Proofs.Ytdndeggognfcaaa
