/- The plain law of an index: what Set and Drop leave. -/
import Derived.Test.YtccjbmmhdbainaaIdxE
namespace Go.Proofs.Ytccjbmmhdbainaa
open Go.RowKit Sets
set_option linter.unusedVariables false
set_option maxRecDepth 100000
set_option linter.unusedSectionVars false
set_option linter.unusedSimpArgs false

def atF {κ : Type} (F : κ → Option (List ByteArray)) (y : κ) : List ByteArray := (F y).getD []
def SdF {κ : Type} (F : κ → Option (List ByteArray)) : Prop := ∀ y, Sd (atF F y)
theorem at_upd {κ : Type} [DecidableEq κ] (F : κ → Option (List ByteArray)) (y z : κ) (l : List ByteArray) : atF (updF F y (optL l)) z = if z = y then l else atF F z := by
  unfold atF updF
  split
  · rw [optL_getD]
  · rfl
theorem fold_delF (key : ByteArray) : ∀ (ls : List Lab) (F : Lab → Option (List ByteArray)), SdF F → SdF (ls.foldl (delF key) F) ∧ ∀ y k, k ∈ atF (ls.foldl (delF key) F) y ↔ k ∈ atF F y ∧ ¬ (y ∈ ls ∧ k = key)
  | [], F, h => ⟨h, by simp⟩
  | a :: t, F, h => by
    have h1 : SdF (delF key F a) := fun z => by
      unfold delF
      rw [at_upd]
      split
      · exact sd_mk _ _ _
      · exact h z
    obtain ⟨h2, h3⟩ := fold_delF key t (delF key F a) h1
    refine ⟨h2, fun y k => ?_⟩
    rw [List.foldl_cons, h3]
    unfold delF
    rw [at_upd]
    by_cases hy : y = a
    · subst hy
      rw [if_pos rfl, mem_less, List.mem_singleton]
      simp only [List.mem_cons, true_or, true_and, atF]
      constructor
      · rintro ⟨⟨h4, h5⟩, _⟩; exact ⟨h4, h5⟩
      · rintro ⟨h4, h5⟩; exact ⟨⟨h4, h5⟩, fun h6 => h5 h6.2⟩
    · rw [if_neg hy]
      simp only [List.mem_cons, hy, false_or]
theorem fold_delN (key : ByteArray) : ∀ (ls : List Lab) (N : ByteArray → Option (List ByteArray)), SdF N → SdF (ls.foldl (delN key) N) ∧ ∀ n k, k ∈ atF (ls.foldl (delN key) N) n ↔ k ∈ atF N n ∧ ¬ (n ∈ namesI ls ∧ k = key)
  | [], N, h => ⟨h, by simp [namesI]⟩
  | a :: t, N, h => by
    have h1 : SdF (delN key N a) := fun z => by
      unfold delN
      rw [at_upd]
      split
      · exact sd_mk _ _ _
      · exact h z
    obtain ⟨h2, h3⟩ := fold_delN key t (delN key N a) h1
    refine ⟨h2, fun n k => ?_⟩
    have hm : n ∈ namesI (a :: t) ↔ n = a.1 ∨ n ∈ namesI t := by simp [namesI]
    rw [List.foldl_cons, h3, hm]
    unfold delN
    rw [at_upd]
    by_cases hy : n = a.1
    · rw [if_pos hy, mem_less]
      subst hy
      simp only [List.mem_singleton, true_or, true_and, atF]
      constructor
      · rintro ⟨⟨h4, h5⟩, _⟩; exact ⟨h4, h5⟩
      · rintro ⟨h4, h5⟩; exact ⟨⟨h4, h5⟩, fun h6 => h5 h6.2⟩
    · rw [if_neg hy]
      simp only [hy, false_or]
theorem fold_addF (key : ByteArray) : ∀ (ls : List Lab) (F : Lab → Option (List ByteArray)), SdF F → SdF (ls.foldl (addF key) F) ∧ ∀ y k, k ∈ atF (ls.foldl (addF key) F) y ↔ k ∈ atF F y ∨ (y ∈ ls ∧ k = key)
  | [], F, h => ⟨h, by simp⟩
  | a :: t, F, h => by
    have h1 : SdF (addF key F a) := fun z => by
      unfold addF
      rw [at_upd]
      split
      · exact sd_mk _ _ _
      · exact h z
    obtain ⟨h2, h3⟩ := fold_addF key t (addF key F a) h1
    refine ⟨h2, fun y k => ?_⟩
    rw [List.foldl_cons, h3]
    unfold addF
    rw [at_upd]
    by_cases hy : y = a
    · subst hy
      rw [if_pos rfl, mem_or, List.mem_singleton]
      simp only [List.mem_cons, true_or, true_and, atF]
      constructor
      · rintro ((h4 | h5) | h6)
        · exact .inl h4
        · exact .inr h5
        · exact .inr h6.2
      · rintro (h4 | h5)
        · exact .inl (.inl h4)
        · exact .inl (.inr h5)
    · rw [if_neg hy]
      simp only [List.mem_cons, hy, false_or]
theorem fold_addN (key : ByteArray) : ∀ (ls : List Lab) (N : ByteArray → Option (List ByteArray)), SdF N → SdF (ls.foldl (addN key) N) ∧ ∀ n k, k ∈ atF (ls.foldl (addN key) N) n ↔ k ∈ atF N n ∨ (n ∈ namesI ls ∧ k = key)
  | [], N, h => ⟨h, by simp [namesI]⟩
  | a :: t, N, h => by
    have h1 : SdF (addN key N a) := fun z => by
      unfold addN
      rw [at_upd]
      split
      · exact sd_mk _ _ _
      · exact h z
    obtain ⟨h2, h3⟩ := fold_addN key t (addN key N a) h1
    refine ⟨h2, fun n k => ?_⟩
    have hm : n ∈ namesI (a :: t) ↔ n = a.1 ∨ n ∈ namesI t := by simp [namesI]
    rw [List.foldl_cons, h3, hm]
    unfold addN
    rw [at_upd]
    by_cases hy : n = a.1
    · rw [if_pos hy, mem_or]
      subst hy
      simp only [List.mem_singleton, true_or, true_and, atF]
      constructor
      · rintro ((h4 | h5) | h6)
        · exact .inl h4
        · exact .inr h5
        · exact .inr h6.2
      · rintro (h4 | h5)
        · exact .inl (.inl h4)
        · exact .inl (.inr h5)
    · rw [if_neg hy]
      simp only [hy, false_or]

/-- What holds of an index: its keys, sorted; each one's labels; the keys by labels and by names. -/
structure GoodI (K : List ByteArray) (G : ByteArray → Option (List Lab)) (F : Lab → Option (List ByteArray)) (N : ByteArray → Option (List ByteArray)) : Prop where
  sd : Sd K
  keys : ∀ k, k ∈ K ↔ (G k).isSome = true
  labs : ∀ k ls, G k = some ls → keyI k = true ∧ rightI ls = true ∧ SrtA ls.length ls
  sdF : SdF F
  sdN : SdF N
  memF : ∀ y k, k ∈ atF F y ↔ ∃ ls, G k = some ls ∧ y ∈ ls
  memN : ∀ n k, k ∈ atF N n ↔ ∃ ls, G k = some ls ∧ n ∈ namesI ls
theorem GoodI.nil : GoodI [] (fun _ => none) (fun _ => none) (fun _ => none) :=
  ⟨Sd.nil, by simp, by simp, fun _ => Sd.nil, fun _ => Sd.nil, by simp [atF], by simp [atF]⟩
theorem GoodI.drop {K : List ByteArray} {G : ByteArray → Option (List Lab)} {F : Lab → Option (List ByteArray)} {N : ByteArray → Option (List ByteArray)} (h : GoodI K G F N) (key : ByteArray) :
    GoodI (K.filter fun k => decide (k ≠ key)) (updF G key none) (dropFs key G F) (dropNs key G N) := by
  obtain ⟨f1, f2⟩ := fold_delF key ((G key).getD []) F h.sdF
  obtain ⟨n1, n2⟩ := fold_delN key ((G key).getD []) N h.sdN
  refine ⟨List.Pairwise.filter _ h.sd, fun k => ?_, fun k ls hk => ?_, f1, n1, fun y k => ?_, fun n k => ?_⟩
  · rw [List.mem_filter, decide_eq_true_eq, h.keys]
    unfold updF
    by_cases hk : k = key
    · rw [if_pos hk]; simp [hk]
    · rw [if_neg hk]; simp [hk]
  · unfold updF at hk
    by_cases hkk : k = key
    · rw [if_pos hkk] at hk; cases hk
    · rw [if_neg hkk] at hk; exact h.labs k ls hk
  · rw [dropFs, f2, h.memF]
    unfold updF
    by_cases hk : k = key
    · subst hk
      rw [if_pos rfl]
      constructor
      · rintro ⟨⟨ls, h1, h2⟩, h3⟩
        exact absurd ⟨by rw [h1]; exact h2, rfl⟩ h3
      · rintro ⟨ls, h1, _⟩; cases h1
    · rw [if_neg hk]
      simp [hk]
  · rw [dropNs, n2, h.memN]
    unfold updF
    by_cases hk : k = key
    · subst hk
      rw [if_pos rfl]
      constructor
      · rintro ⟨⟨ls, h1, h2⟩, h3⟩
        exact absurd ⟨by rw [h1]; exact h2, rfl⟩ h3
      · rintro ⟨ls, h1, _⟩; cases h1
    · rw [if_neg hk]
      simp [hk]
theorem right_perm {a l : List Lab} (h : a.Perm l) : rightI a = rightI l := by
  unfold rightI goodI
  have h1 : (a.all fun y => keyI y.1 && keyI y.2) = l.all fun y => keyI y.1 && keyI y.2 := by
    rw [Bool.eq_iff_iff, List.all_eq_true, List.all_eq_true]
    exact ⟨fun hh y hy => hh y (h.mem_iff.2 hy), fun hh y hy => hh y (h.mem_iff.1 hy)⟩
  have h2 : decide ((namesI a).Nodup) = decide ((namesI l).Nodup) := decide_eq_decide.2 (h.map _).nodup_iff
  rw [h1, h2, h.length_eq]
theorem GoodI.set {K : List ByteArray} {G : ByteArray → Option (List Lab)} {F : Lab → Option (List ByteArray)} {N : ByteArray → Option (List ByteArray)} (h : GoodI K G F N) (key : ByteArray) (l a : List Lab)
    (hk : (keyI key && rightI l) = true) (hp : a.Perm l) (hs : SrtA a.length a) :
    GoodI (addL (K.filter fun k => decide (k ≠ key)) key) (updF (updF G key none) key (some a)) (l.foldl (addF key) (dropFs key G F)) (l.foldl (addN key) (dropNs key G N)) := by
  rw [Bool.and_eq_true] at hk
  have hd := h.drop key
  obtain ⟨f1, f2⟩ := fold_addF key l _ hd.sdF
  obtain ⟨n1, n2⟩ := fold_addN key l _ hd.sdN
  have hnm : ∀ n, n ∈ namesI a ↔ n ∈ namesI l := fun n => (hp.map _).mem_iff
  refine ⟨sd_addL key hd.sd, fun k => ?_, fun k ls hk2 => ?_, f1, n1, fun y k => ?_, fun n k => ?_⟩
  · rw [mem_addL, hd.keys]
    by_cases hkk : k = key
    · simp [updF, hkk]
    · simp [updF, hkk]
  · by_cases hkk : k = key
    · subst hkk
      simp [updF] at hk2
      subst hk2
      exact ⟨hk.1, by rw [right_perm hp]; exact hk.2, hs⟩
    · simp [updF, hkk] at hk2
      exact h.labs k ls hk2
  · rw [f2, hd.memF]
    by_cases hkk : k = key
    · subst hkk
      simp [updF, hp.mem_iff]
    · simp [updF, hkk]
  · rw [n2, hd.memN]
    by_cases hkk : k = key
    · subst hkk
      simp [updF, hnm]
    · simp [updF, hkk]
end Go.Proofs.Ytccjbmmhdbainaa
