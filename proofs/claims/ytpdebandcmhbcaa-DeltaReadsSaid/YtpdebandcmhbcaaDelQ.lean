/- The plain law of delta: samples' bits. -/
import Derived.Test.YtpdebandcmhbcaaDelP
namespace Go.Proofs.Ytpdebandcmhbcaa
open Go.RowKit Bit
set_option linter.unusedVariables false

abbrev Smp := Int × Int
def smpC (x : Smp) : List Value := [.int .i64 x.1, .int .i64 x.2]
theorem smpC_len (x : Smp) : (smpC x).length = 2 := rfl
theorem smpC_one (x : Smp) : ∀ u ∈ smpC x, u.oneCell' = true := by
  intro u hu
  simp [smpC] at hu
  rcases hu with rfl | rfl <;> rfl
structure SmpOk (x : Smp) : Prop where
  t1 : -9223372036854775808 ≤ x.1
  t2 : x.1 ≤ 9223372036854775807
  v1 : -9223372036854775808 ≤ x.2
  v2 : x.2 ≤ 9223372036854775807
/-- A number's bits as those of a number without a sign. -/
def u64N (x : Int) : Nat := (x % 18446744073709551616).toNat
theorem u64N_lt (x : Int) : u64N x < 18446744073709551616 := by unfold u64N; omega
theorem u64N_wrap (x : Int) : IntKind.u64.wrap x = ((u64N x : Nat) : Int) := by
  simp only [IntKind.wrap, IntKind.bits, IntKind.signed, u64N]
  simp
  omega
theorem wrap64_lo (x : Int) : -9223372036854775808 ≤ wrap64 x := by unfold wrap64; omega
theorem wrap64_hi (x : Int) : wrap64 x ≤ 9223372036854775807 := by unfold wrap64; omega
theorem zigW_lt (x : Int) : zigN (wrap64 x) < 18446744073709551616 := zig_lt _ (wrap64_lo x) (wrap64_hi x)
def firstB (x : Smp) : List Bool := bitsOf (u64N x.1) 64 ++ bitsOf (u64N x.2) 64
def encGo : Smp → Int → List Smp → List Bool
  | _, _, [] => []
  | last, step, x :: t => (codeB (zigN (wrap64 (wrap64 (x.1 - last.1) - step))) ++ codeB (zigN (wrap64 (x.2 - last.2)))) ++ encGo x (wrap64 (x.1 - last.1)) t
def encB : List Smp → List Bool
  | [] => []
  | x :: t => firstB x ++ encGo x 0 t
theorem encGo_len : ∀ (l : List Smp) (last : Smp) (step : Int), (encGo last step l).length ≤ 136 * l.length
  | [], _, _ => by simp [encGo]
  | x :: t, last, step => by
    have := encGo_len t x (wrap64 (x.1 - last.1))
    have h1 := size_le (zigN (wrap64 (wrap64 (x.1 - last.1) - step)))
    have h2 := size_le (zigN (wrap64 (x.2 - last.2)))
    simp only [encGo, List.length_append, codeB_len, List.length_cons]
    omega
theorem encB_len (l : List Smp) : (encB l).length ≤ 136 * l.length := by
  cases l with
  | nil => simp [encB]
  | cons x t =>
    have := encGo_len t x 0
    simp only [encB, firstB, List.length_append, length_bitsOf, List.length_cons]
    omega
/-- Where the writing of samples stands: i of them are written, as W. -/
def EncAt (l : List Smp) (i : Nat) (step : Int) (W : List Bool) : Prop :=
  (i = 0 ∧ step = 0 ∧ W = []) ∨ ∃ last, 1 ≤ i ∧ l[i - 1]? = some last ∧ W ++ encGo last step (l.drop i) = encB l
theorem EncAt.start (l : List Smp) : EncAt l 0 0 [] := .inl ⟨rfl, rfl, rfl⟩
theorem EncAt.first {l : List Smp} {step : Int} {W : List Bool} (h : EncAt l 0 step W) {x : Smp} (hx : l[0]? = some x) : step = 0 ∧ W = [] ∧ EncAt l 1 0 ((W ++ bitsOf (u64N x.1) 64) ++ bitsOf (u64N x.2) 64) := by
  rcases h with ⟨_, h1, h2⟩ | ⟨_, h, _⟩
  · refine ⟨h1, h2, .inr ⟨x, by omega, hx, ?_⟩⟩
    subst h2
    cases l with
    | nil => simp at hx
    | cons y t =>
      simp at hx
      subst hx
      simp [encB, firstB]
  · omega
theorem EncAt.next {l : List Smp} {i : Nat} {step : Int} {W : List Bool} (h : EncAt l i step W) (hi : i ≠ 0) {x last : Smp} (hx : l[i]? = some x) (hl : l[i - 1]? = some last) :
    EncAt l (i + 1) (wrap64 (x.1 - last.1)) ((W ++ codeB (zigN (wrap64 (wrap64 (x.1 - last.1) - step)))) ++ codeB (zigN (wrap64 (x.2 - last.2)))) := by
  rcases h with ⟨h, _⟩ | ⟨q, h1, h2, h3⟩
  · omega
  · rw [hl] at h2
    injection h2 with h2
    subst h2
    refine .inr ⟨x, by omega, hx, ?_⟩
    obtain ⟨hlt, hxe⟩ := List.getElem?_eq_some_iff.1 hx
    rw [List.drop_eq_getElem_cons hlt, hxe] at h3
    rw [← h3]
    simp only [encGo, List.append_assoc]
theorem EncAt.done {l : List Smp} {step : Int} {W : List Bool} (h : EncAt l l.length step W) : W = encB l := by
  rcases h with ⟨h, _, rfl⟩ | ⟨q, h1, h2, h3⟩
  · have : l = [] := List.eq_nil_of_length_eq_zero h
    subst this; rfl
  · rw [List.drop_of_length_le (Nat.le_refl _)] at h3
    simpa [encGo] using h3
theorem EncAt.len {l : List Smp} {i : Nat} {step : Int} {W : List Bool} (h : EncAt l i step W) : W.length ≤ 136 * l.length := by
  rcases h with ⟨_, _, rfl⟩ | ⟨q, h1, h2, h3⟩
  · simp
  · have := encB_len l
    rw [← h3, List.length_append] at this
    omega
end Go.Proofs.Ytpdebandcmhbcaa
