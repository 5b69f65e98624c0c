/- Labels sorted by their names: the plain law. -/
import Derived.Test.YtccjbmmhdbainaaIdxD
namespace Go.Proofs.Ytccjbmmhdbainaa
open Go.RowKit Sets
set_option linter.unusedVariables false
set_option maxRecDepth 100000
set_option linter.unusedSectionVars false
set_option linter.unusedSimpArgs false

def noL : Lab := (⟨#[]⟩, ⟨#[]⟩)
def nmA (a : List Lab) (p : Nat) : ByteArray := (a.getD p noL).1
def swapA (a : List Lab) (k : Nat) : List Lab := (a.set k (a.getD (k - 1) noL)).set (k - 1) (a.getD k noL)
structure InsP (l : List Lab) (i k : Nat) (a : List Lab) : Prop where
  perm : a.Perm l
  lo : ∀ p q, p < q → q ≤ i → p ≠ k → q ≠ k → ltB (nmA a p) (nmA a q) = true
  at_ : ∀ q, k < q → q ≤ i → ltB (nmA a k) (nmA a q) = true
/-- The first i are sorted. -/
def SrtA (i : Nat) (a : List Lab) : Prop := ∀ p q, p < q → q < i → ltB (nmA a p) (nmA a q) = true
theorem swap_len (a : List Lab) (k : Nat) : (swapA a k).length = a.length := by simp [swapA]
theorem swap_nm (a : List Lab) (k p : Nat) (hk : 0 < k) (hl : k < a.length) : nmA (swapA a k) p = if p = k - 1 then nmA a k else if p = k then nmA a (k - 1) else nmA a p := by
  unfold nmA swapA
  simp only [List.getD_eq_getElem?_getD, List.getElem?_set, List.length_set]
  by_cases h1 : p = k - 1
  · subst h1
    simp [show k - 1 < a.length by omega]
  · rw [if_neg (by omega), if_neg h1]
    by_cases h2 : p = k
    · subst h2
      simp [hl]
    · rw [if_neg (by omega), if_neg h2]
theorem swap_perm (a : List Lab) (k : Nat) (hk : 0 < k) (hl : k < a.length) : (swapA a k).Perm a := by
  have h1 : a.getD (k - 1) noL = a[k - 1] := by rw [List.getD_eq_getElem?_getD, List.getElem?_eq_getElem (by omega)]; rfl
  have h2 : a.getD k noL = a[k] := by rw [List.getD_eq_getElem?_getD, List.getElem?_eq_getElem hl]; rfl
  unfold swapA
  rw [h1, h2]
  exact List.set_set_perm hl (by omega)
theorem ins_start {l a : List Lab} {i : Nat} (hp : a.Perm l) (hs : SrtA i a) : InsP l i i a :=
  ⟨hp, fun p q hpq hq h1 h2 => hs p q hpq (by omega), fun q h1 h2 => by omega⟩
theorem ins_swap {l a : List Lab} {i k : Nat} (h : InsP l i k a) (hk : 0 < k) (hki : k ≤ i) (hl : i < a.length) (hlt : ltB (nmA a k) (nmA a (k - 1)) = true) : InsP l i (k - 1) (swapA a k) := by
  refine ⟨(swap_perm a k hk (by omega)).trans h.perm, fun p q hpq hq h1 h2 => ?_, fun q h1 h2 => ?_⟩
  · rw [swap_nm a k p hk (by omega), swap_nm a k q hk (by omega), if_neg h1, if_neg h2]
    by_cases hpk : p = k
    · rw [if_pos hpk, if_neg (by omega)]
      exact h.lo (k - 1) q (by omega) hq (by omega) (by omega)
    · rw [if_neg hpk]
      by_cases hqk : q = k
      · rw [if_pos hqk]
        exact h.lo p (k - 1) (by omega) (by omega) hpk (by omega)
      · rw [if_neg hqk]
        exact h.lo p q hpq hq hpk hqk
  · rw [swap_nm a k (k - 1) hk (by omega), swap_nm a k q hk (by omega), if_pos rfl, if_neg (by omega)]
    by_cases hqk : q = k
    · rw [if_pos hqk]; exact hlt
    · rw [if_neg hqk]; exact h.at_ q (by omega) h2
theorem ins_zero {l a : List Lab} {i : Nat} (h : InsP l i 0 a) : SrtA (i + 1) a := fun p q hpq hq => by
  by_cases hp : p = 0
  · subst hp; exact h.at_ q hpq (by omega)
  · exact h.lo p q hpq (by omega) hp (by omega)
theorem ins_stop {l a : List Lab} {i k : Nat} (h : InsP l i k a) (hk : 0 < k) (hki : k ≤ i) (hl : i < a.length) (hd : ∀ p q, p < q → q < a.length → nmA a p ≠ nmA a q) (hlt : ltB (nmA a k) (nmA a (k - 1)) = false) : SrtA (i + 1) a := by
  have hlt2 : ltB (nmA a (k - 1)) (nmA a k) = true := by
    cases hc : ltB (nmA a (k - 1)) (nmA a k) with
    | true => rfl
    | false => exact absurd (lt_tri hc hlt) (hd (k - 1) k (by omega) (by omega))
  intro p q hpq hq
  by_cases hpk : p = k
  · subst hpk; exact h.at_ q hpq (by omega)
  · by_cases hqk : q = k
    · subst hqk
      by_cases hp1 : p = q - 1
      · subst hp1; exact hlt2
      · exact lt_trans (h.lo p (q - 1) (by omega) (by omega) hpk (by omega)) hlt2
    · exact h.lo p q hpq (by omega) hpk hqk
theorem names_differ {a l : List Lab} (hp : a.Perm l) (hg : goodI l = true) : ∀ p q, p < q → q < a.length → nmA a p ≠ nmA a q := by
  have hn : (namesI a).Nodup := by
    unfold goodI at hg
    rw [Bool.and_eq_true, decide_eq_true_eq] at hg
    exact (hp.map (fun y : Lab => y.1)).nodup_iff.2 hg.2
  intro p q hpq hq e
  have h1 : (namesI a)[p]? = some (nmA a p) := by
    unfold namesI nmA
    rw [List.getElem?_map, List.getD_eq_getElem?_getD, List.getElem?_eq_getElem (by omega)]; rfl
  have h2 : (namesI a)[q]? = some (nmA a p) := by
    rw [e]
    unfold namesI nmA
    rw [List.getElem?_map, List.getD_eq_getElem?_getD, List.getElem?_eq_getElem hq]; rfl
  have := (List.getElem?_inj (List.getElem?_eq_some_iff.1 h1).1 hn).1 (h1.trans h2.symm)
  omega
end Go.Proofs.Ytccjbmmhdbainaa
