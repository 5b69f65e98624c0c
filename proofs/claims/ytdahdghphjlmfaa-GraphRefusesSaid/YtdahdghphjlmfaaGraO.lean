/- GraphOf: the plain law; its walk. -/
import Derived.Test.YtdahdghphjlmfaaGraH
import Derived.Deep.CutRange
import Derived.Deep.RegionHeld3
namespace Go.Proofs.Ytdahdghphjlmfaa
open Go.RowKit Sets Gra
set_option linter.unusedVariables false

def hasS (A : List ByteArray) (s : ByteArray) : Bool := A.any fun a => decide (a = s)
theorem hasS_iff (A : List ByteArray) (s : ByteArray) : hasS A s = true ↔ s ∈ A := by
  unfold hasS
  rw [List.any_eq_true]
  exact ⟨fun ⟨a, ha, e⟩ => by rw [← of_decide_eq_true e]; exact ha, fun h => ⟨s, h, by simp⟩⟩
def srcs (L : List Rule) : List ByteArray := L.map fun r => r.src
/-- The rules of the sources that the first i rules have. -/
def madeL (L : List Rule) (i : Nat) : List Rule := L.filter fun r => hasS (srcs (L.take i)) r.src
theorem madeL_zero (L : List Rule) : madeL L 0 = [] := by simp [madeL, srcs, hasS]
theorem madeL_end (L : List Rule) : madeL L L.length = L := by
  unfold madeL
  rw [List.take_of_length_le (Nat.le_refl _)]
  exact List.filter_eq_self.2 fun r hr => by rw [hasS_iff]; exact List.mem_map.2 ⟨r, hr, rfl⟩
theorem lt_src {a b : Rule} (h : Lt a b) : a.src = b.src ∨ ltB a.src b.src = true := by
  unfold Lt aheadR at h
  by_cases e : a.src = b.src
  · exact .inl e
  · rw [if_neg e] at h
    exact .inr h
theorem split_src {s : ByteArray} {A : List ByteArray} (hA : ∀ a ∈ A, ltB a s = true) : ∀ L : List Rule, L.Pairwise Lt → (L.filter fun r => hasS A r.src || decide (r.src = s)) = (L.filter fun r => hasS A r.src) ++ L.filter fun r => decide (r.src = s)
  | [], _ => rfl
  | x :: L, h => by
    obtain ⟨h1, h2⟩ := List.pairwise_cons.1 h
    have ih := split_src hA L h2
    by_cases hx : x.src = s
    · have hno : (L.filter fun r => hasS A r.src) = [] := by
        rw [List.filter_eq_nil_iff]
        intro r hr hm
        have hm' : r.src ∈ A := (hasS_iff _ _).1 hm
        have h3 := hA _ hm'
        rcases lt_src (h1 r hr) with e | e
        · rw [← e, hx, lt_irrefl] at h3; cases h3
        · rw [hx] at e
          have := lt_trans e h3
          rw [lt_irrefl] at this; cases this
      have hxA : ¬ hasS A x.src = true := fun hm => by
        have := hA _ ((hasS_iff _ _).1 hm)
        rw [hx, lt_irrefl] at this; cases this
      rw [List.filter_cons_of_pos (by simp [hx]), List.filter_cons_of_neg (p := fun r : Rule => hasS A r.src) hxA, List.filter_cons_of_pos (by simp [hx]), ih, hno]
      rfl
    · by_cases hm : hasS A x.src = true
      · rw [List.filter_cons_of_pos (by simp [hm]), List.filter_cons_of_pos (p := fun r : Rule => hasS A r.src) hm, List.filter_cons_of_neg (by simpa using hx), ih]
        rfl
      · rw [List.filter_cons_of_neg (by simp at hm; simp [hm, hx]), List.filter_cons_of_neg (p := fun r : Rule => hasS A r.src) hm, List.filter_cons_of_neg (by simpa using hx), ih]
theorem take_src {L : List Rule} {i : Nat} {q : Rule} (hq : L[i]? = some q) (s : ByteArray) : s ∈ srcs (L.take (i + 1)) ↔ s ∈ srcs (L.take i) ∨ s = q.src := by
  unfold srcs
  rw [List.take_add_one, hq, List.map_append, List.mem_append]
  simp
theorem take_has {L : List Rule} {i : Nat} {q : Rule} (hq : L[i]? = some q) (s : ByteArray) : hasS (srcs (L.take (i + 1))) s = (hasS (srcs (L.take i)) s || decide (s = q.src)) := by
  rw [Bool.eq_iff_iff, hasS_iff, take_src hq, Bool.or_eq_true, hasS_iff, decide_eq_true_eq]
/-- A source that is new: it is behind all the others. -/
theorem madeL_new {L : List Rule} (ho : Ok L) {i : Nat} {q : Rule} (hq : L[i]? = some q) (hn : i = 0 ∨ ∃ p, L[i - 1]? = some p ∧ p.src ≠ q.src) : madeL L (i + 1) = madeL L i ++ ofL L q.src := by
  unfold madeL
  have e : (L.filter fun r => hasS (srcs (L.take (i + 1))) r.src) = L.filter fun r => hasS (srcs (L.take i)) r.src || decide (r.src = q.src) := List.filter_congr fun r _ => take_has hq _
  rw [e]
  refine split_src ?_ L ho.sorted
  intro a ha
  obtain ⟨r, hr, rfl⟩ := List.mem_map.1 ha
  obtain ⟨j, hj⟩ := List.mem_iff_getElem?.1 hr
  rw [List.getElem?_take] at hj
  split at hj
  · rename_i hji
    have hpw := List.pairwise_iff_getElem.1 ho.sorted
    obtain ⟨hil, hiq⟩ := List.getElem?_eq_some_iff.1 hq
    obtain ⟨hjl, hjr⟩ := List.getElem?_eq_some_iff.1 hj
    rcases hn with rfl | ⟨p, hp, hpq⟩
    · omega
    · obtain ⟨hpl, hpe⟩ := List.getElem?_eq_some_iff.1 hp
      have h1 : Lt p q := by rw [← hpe, ← hiq]; exact hpw (i - 1) i hpl hil (by omega)
      have h1' : ltB p.src q.src = true := (lt_src h1).resolve_left hpq
      by_cases hjp : j = i - 1
      · subst hjp
        rw [hj] at hp
        injection hp with hp
        rw [hp]; exact h1'
      · have h2 : Lt r p := by rw [← hpe, ← hjr]; exact hpw j (i - 1) hjl hpl (by omega)
        rcases lt_src h2 with e2 | e2
        · rw [e2]; exact h1'
        · exact lt_trans e2 h1'
  · cases hj
theorem madeL_old {L : List Rule} {i : Nat} {q p : Rule} (hq : L[i]? = some q) (h0 : i ≠ 0) (hp : L[i - 1]? = some p) (e : p.src = q.src) : madeL L (i + 1) = madeL L i := by
  unfold madeL
  refine List.filter_congr fun r _ => ?_
  rw [Bool.eq_iff_iff, hasS_iff, hasS_iff, take_src hq]
  refine ⟨fun h => h.elim id fun h => ?_, .inl⟩
  rw [h, ← e]
  refine List.mem_map.2 ⟨p, List.mem_of_getElem? (i := i - 1) ?_, rfl⟩
  rw [List.getElem?_take, if_pos (by omega), hp]
theorem madeL_len (L : List Rule) (i : Nat) : (madeL L i).length ≤ L.length := List.length_filter_le _ _
theorem dst_other {L : List Rule} (ho : Ok L) {i k : Nat} {q p : Rule} (hq : L[i]? = some q) (hp : L[k]? = some p) (hk : k < i) : p.dst ≠ q.dst := by
  intro e
  have := ho.inj (List.mem_of_getElem? hp) (List.mem_of_getElem? hq) e
  subst this
  have hn : L.Nodup := by
    have := ho.nodup
    rw [List.Nodup, List.pairwise_map] at this
    exact this.imp fun hne e => hne (congrArg _ e)
  have := (List.getElem?_inj (List.getElem?_eq_some_iff.1 hp).1 hn).1 (hp.trans hq.symm)
  omega
end Go.Proofs.Ytdahdghphjlmfaa
