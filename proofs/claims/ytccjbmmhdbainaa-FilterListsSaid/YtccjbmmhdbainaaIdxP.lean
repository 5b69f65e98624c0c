/- The plain law of an index: sizes, and what is found by. -/
import Derived.Test.YtccjbmmhdbainaaIdxO
namespace Go.Proofs.Ytccjbmmhdbainaa
open Go.RowKit Sets
set_option linter.unusedVariables false
set_option maxRecDepth 100000
set_option linter.unusedSectionVars false
set_option linter.unusedSimpArgs false

/-- The names of rows of labels. -/
def inM (M : Mod) (x : ByteArray) : Prop := ∃ p ∈ M, x ∈ namesI p.2
theorem inM_nil (x : ByteArray) : ¬ inM [] x := by rintro ⟨p, hp, _⟩; simp at hp
theorem inM_snoc (M : Mod) (e : Ent) (x : ByteArray) : inM (M ++ [e]) x ↔ inM M x ∨ x ∈ namesI e.2 := by
  unfold inM
  constructor
  · rintro ⟨p, hp, hx⟩
    rcases List.mem_append.1 hp with hp | hp
    · exact .inl ⟨p, hp, hx⟩
    · simp at hp
      subst hp
      exact .inr hx
  · rintro (⟨p, hp, hx⟩ | hx)
    · exact ⟨p, List.mem_append_left _ hp, hx⟩
    · exact ⟨e, by simp, hx⟩
theorem count_names {L A : List ByteArray} (hL : L.Nodup) (hA : A.Nodup) (hs : ∀ x ∈ A, x ∈ L) : (L.filter (hasB A)).length = A.length := by
  refine List.Perm.length_eq ((List.perm_ext_iff_of_nodup (hL.sublist List.filter_sublist) hA).2 fun x => ?_)
  rw [List.mem_filter, hasB_iff]
  exact ⟨fun h => h.2, fun h => ⟨hs x h, h⟩⟩
theorem with_cons (p : Ent) (M : Mod) (n : ByteArray) : (withM (p :: M) n).length = (if hasB (namesI p.2) n then 1 else 0) + (withM M n).length := by
  unfold withM keysM
  rw [List.length_map, List.length_map]
  by_cases h : hasB (namesI p.2) n = true
  · rw [if_pos h, List.filter_cons_of_pos (p := fun p : Ent => hasB (namesI p.2) n) h, List.length_cons]; omega
  · rw [if_neg h, List.filter_cons_of_neg (p := fun p : Ent => hasB (namesI p.2) n) h]; omega
theorem sum_add {α : Type} (f g : α → Nat) : ∀ l : List α, (l.map fun x => f x + g x).sum = (l.map f).sum + (l.map g).sum
  | [] => rfl
  | a :: l => by
    have := sum_add f g l
    simp only [List.map_cons, List.sum_cons, this]
    omega
theorem sum_ind {α : Type} (p : α → Bool) : ∀ l : List α, (l.map fun x => if p x then 1 else 0).sum = (l.filter p).length
  | [] => rfl
  | a :: l => by
    have := sum_ind p l
    by_cases h : p a = true
    · simp only [List.map_cons, List.sum_cons, this, if_pos h, List.filter_cons_of_pos h, List.length_cons]; omega
    · simp only [List.map_cons, List.sum_cons, this, if_neg h, List.filter_cons_of_neg h]; omega
theorem sum_zero {α : Type} : ∀ l : List α, (l.map fun _ => (0 : Nat)).sum = 0
  | [] => rfl
  | a :: l => by simpa using sum_zero l
theorem sum_with {L : List ByteArray} (hL : L.Nodup) : ∀ M : Mod, (∀ p ∈ M, (namesI p.2).Nodup ∧ ∀ x ∈ namesI p.2, x ∈ L) → (L.map fun n => (withM M n).length).sum = sizeM M
  | [], _ => by
    have : (fun n => (withM [] n).length) = fun _ : ByteArray => 0 := rfl
    rw [this, sum_zero]
    rfl
  | p :: M, h => by
    have ih := sum_with hL M fun q hq => h q (by simp [hq])
    have e : (fun n => (withM (p :: M) n).length) = fun n => (if hasB (namesI p.2) n then 1 else 0) + (withM M n).length := by
      funext n; exact with_cons p M n
    rw [e, sum_add, ih, sum_ind, count_names hL (h p (by simp)).1 (h p (by simp)).2, names_len]
    simp [sizeM]
theorem sizes_law {M : Mod} (hM : GoodM M) {S : List ByteArray} (hS : Sd S) (hm : ∀ x, x ∈ S ↔ inM M x) : (S.map fun n => (withM M n).length).sum = sizeM M :=
  sum_with (sd_nodup hS) M fun p hp => ⟨good_nodup (right_good (hM.ent p hp).2.1), fun x hx => (hm x).2 ⟨p, hp, hx⟩⟩
theorem key_size {s : ByteArray} (h : keyI s = true) : s.size ≤ 64 := by
  unfold keyI at h
  simp at h
  exact h.2
theorem ent_okL {M : Mod} (hM : GoodM M) {p : Ent} (hp : p ∈ M) {y : Lab} (hy : y ∈ p.2) : okL y := (right_ok (hM.ent p hp).2.1).1 y hy
theorem inM_ok {M : Mod} (hM : GoodM M) {x : ByteArray} (h : inM M x) : okS x := by
  obtain ⟨p, hp, hx⟩ := h
  obtain ⟨y, hy, rfl⟩ := List.mem_map.1 hx
  exact (ent_okL hM hp hy).1
theorem keys_get {M : Mod} {k : Nat} {p : Ent} (h : M[k]? = some p) : (keysM M)[k]? = some p.1 := by
  unfold keysM
  rw [List.getElem?_map, h]
  rfl
theorem lk_at {M : Mod} (hM : GoodM M) {k : Nat} {p : Ent} (h : M[k]? = some p) : (lkM M p.1).getD [] = p.2 := by
  rw [(lk_some hM.sd).2 (show (p.1, p.2) ∈ M from List.mem_of_getElem? h)]
  rfl
theorem inM_take {M : Mod} {k : Nat} {p : Ent} (h : M[k]? = some p) (x : ByteArray) : inM (M.take (k + 1)) x ↔ inM (M.take k) x ∨ x ∈ namesI p.2 := by
  rw [take_snoc h, inM_snoc]
theorem names_snoc {l : List Lab} {k : Nat} {y : Lab} (h : l[k]? = some y) (x : ByteArray) : x ∈ namesI (l.take (k + 1)) ↔ x ∈ namesI (l.take k) ∨ x = y.1 := by
  rw [take_snoc h, names_app, List.mem_append]
  simp [namesI]
theorem len_addL (l : List ByteArray) (s : ByteArray) : (addL l s).length ≤ l.length + 1 := by
  induction l with
  | nil => simp [addL]
  | cons a l ih =>
    unfold addL
    split
    · simp only [List.length_cons]; omega
    · split <;> simp only [List.length_cons] <;> omega
theorem txt_cell {w : World} {A : Option Addr} {xs : List ByteArray} {k : Nat} {x : ByteArray} (h : Rd w A (xs.map .string)) (hx : xs[k]? = some x) : ∃ ad, A = some ad ∧ w.cell? (ad.add k) = some (.string x) :=
  h.at_ (by rw [List.getElem?_map, hx]; rfl)
theorem hasN_snoc {l : List Lab} {k : Nat} {y : Lab} {n : ByteArray} (h : l[k]? = some y) : hasB (namesI (l.take (k + 1))) n = (hasB (namesI (l.take k)) n || decide (y.1 = n)) := by
  rw [Bool.eq_iff_iff, hasB_iff, names_snoc h, Bool.or_eq_true, hasB_iff, decide_eq_true_eq]
  constructor
  · rintro (h | rfl)
    · exact .inl h
    · exact .inr rfl
  · rintro (h | rfl)
    · exact .inl h
    · exact .inr rfl
end Go.Proofs.Ytccjbmmhdbainaa
