/- The plain law of an index: a sorted list of keys with their labels. -/
import Derived.Test.YtccjbmmhdbainaaIdxN
namespace Go.Proofs.Ytccjbmmhdbainaa
open Go.RowKit Sets
set_option linter.unusedVariables false
set_option maxRecDepth 100000
set_option linter.unusedSectionVars false
set_option linter.unusedSimpArgs false

section
variable {α : Type}
def insBy (f : α → ByteArray) (M : List α) (e : α) : List α := M.takeWhile (fun p => ltB (f p) (f e)) ++ e :: M.dropWhile (fun p => ltB (f p) (f e))
theorem insBy_perm (f : α → ByteArray) (M : List α) (e : α) : (insBy f M e).Perm (e :: M) := by
  unfold insBy
  have := List.takeWhile_append_dropWhile (p := fun p => ltB (f p) (f e)) (l := M)
  exact List.perm_middle.trans (by rw [this])
theorem drop_ge {f : α → ByteArray} {s : ByteArray} : ∀ {M : List α}, Sd (M.map f) → (∀ p ∈ M, f p ≠ s) → ∀ p ∈ M.dropWhile (fun p => ltB (f p) s), ltB s (f p) = true
  | [], _, _, p, hp => by simp at hp
  | a :: M, h, hne, p, hp => by
    have h2 := List.pairwise_cons.1 h
    cases hc : ltB (f a) s with
    | true =>
      rw [List.dropWhile_cons_of_pos (by simpa using hc)] at hp
      exact drop_ge h2.2 (fun q hq => hne q (by simp [hq])) p hp
    | false =>
      rw [List.dropWhile_cons_of_neg (by simp [hc])] at hp
      have hs : ltB s (f a) = true := by
        cases hd : ltB s (f a) with
        | true => rfl
        | false => exact absurd (lt_tri hc hd) (hne a (by simp))
      rcases List.mem_cons.1 hp with rfl | hp
      · exact hs
      · exact lt_trans hs (h2.1 _ (List.mem_map.2 ⟨p, hp, rfl⟩))
theorem take_lt {f : α → ByteArray} {s : ByteArray} : ∀ {M : List α}, ∀ p ∈ M.takeWhile (fun p => ltB (f p) s), ltB (f p) s = true
  | [], p, hp => by simp at hp
  | a :: M, p, hp => by
    cases hc : ltB (f a) s with
    | true =>
      rw [List.takeWhile_cons_of_pos (by simpa using hc)] at hp
      rcases List.mem_cons.1 hp with rfl | hp
      · exact hc
      · exact take_lt p hp
    | false =>
      rw [List.takeWhile_cons_of_neg (by simp [hc])] at hp
      simp at hp
theorem insBy_sd {f : α → ByteArray} {M : List α} {e : α} (h : Sd (M.map f)) (hne : ∀ p ∈ M, f p ≠ f e) : Sd ((insBy f M e).map f) := by
  unfold insBy
  rw [List.map_append, List.map_cons]
  have h1 : Sd ((M.takeWhile (fun p => ltB (f p) (f e))).map f) := h.sublist ((List.takeWhile_sublist _).map f)
  have h2 : Sd ((M.dropWhile (fun p => ltB (f p) (f e))).map f) := h.sublist ((List.dropWhile_sublist _).map f)
  have hg := drop_ge h hne
  have hl := @take_lt α f (f e) M
  refine List.pairwise_append.2 ⟨h1, List.pairwise_cons.2 ⟨fun z hz => ?_, h2⟩, fun y hy z hz => ?_⟩
  · obtain ⟨p, hp, rfl⟩ := List.mem_map.1 hz
    exact hg p hp
  · obtain ⟨q, hq, rfl⟩ := List.mem_map.1 hy
    rcases List.mem_cons.1 hz with rfl | hz
    · exact hl q hq
    · obtain ⟨p, hp, rfl⟩ := List.mem_map.1 hz
      exact lt_trans (hl q hq) (hg p hp)
end
def srtL (l : List Lab) : List Lab := l.foldl (insBy fun y => y.1) []
theorem srt_fold : ∀ (l o : List Lab), Sd (o.map fun y => y.1) → (namesI (l ++ o)).Nodup → Sd ((l.foldl (insBy fun y => y.1) o).map fun y => y.1) ∧ (l.foldl (insBy fun y => y.1) o).Perm (l ++ o)
  | [], o, h, _ => ⟨h, List.Perm.refl _⟩
  | a :: l, o, h, hn => by
    have hn' : (namesI (a :: (l ++ o))).Nodup := hn
    have hne : ∀ p ∈ o, p.1 ≠ a.1 := fun p hp e => (List.nodup_cons.1 hn').1 (by
      show a.1 ∈ _
      rw [← e]
      exact List.mem_map.2 ⟨p, List.mem_append_right _ hp, rfl⟩)
    have hp := insBy_perm (fun y : Lab => y.1) o a
    have hpp : (l ++ insBy (fun y : Lab => y.1) o a).Perm (a :: (l ++ o)) := ((List.Perm.append_left l hp).trans List.perm_middle)
    obtain ⟨h1, h2⟩ := srt_fold l (insBy (fun y => y.1) o a) (insBy_sd h hne) ((hpp.map _).nodup_iff.2 hn')
    exact ⟨h1, h2.trans hpp⟩
theorem srt_of_sd {a : List Lab} (h : Sd (a.map fun y => y.1)) : SrtA a.length a := by
  intro p q hpq hq
  have h1 := (List.pairwise_iff_getElem.1 h) p q (by rw [List.length_map]; omega) (by rw [List.length_map]; omega) hpq
  rw [List.getElem_map, List.getElem_map] at h1
  unfold nmA
  rw [List.getD_eq_getElem?_getD, List.getD_eq_getElem?_getD, List.getElem?_eq_getElem hq, List.getElem?_eq_getElem (show p < a.length by omega)]
  exact h1
theorem good_nodup {l : List Lab} (h : goodI l = true) : (namesI l).Nodup := by
  unfold goodI at h
  rw [Bool.and_eq_true, decide_eq_true_eq] at h
  exact h.2
theorem right_good {l : List Lab} (h : rightI l = true) : goodI l = true := by
  unfold rightI at h
  rw [Bool.and_eq_true] at h
  exact h.1
theorem srtL_ok {l : List Lab} (h : goodI l = true) : (srtL l).Perm l ∧ Sd ((srtL l).map fun y => y.1) ∧ SrtA (srtL l).length (srtL l) := by
  obtain ⟨h1, h2⟩ := srt_fold l [] Sd.nil (by rw [List.append_nil]; exact good_nodup h)
  rw [List.append_nil] at h2
  exact ⟨h2, h1, srt_of_sd h1⟩
theorem srtL_eq {a l : List Lab} (h : goodI l = true) (hp : a.Perm l) (hs : SrtA a.length a) : a = srtL l :=
  srt_unique (hp.trans (srtL_ok h).1.symm) hs (srtL_ok h).2.2

abbrev Ent := ByteArray × List Lab
abbrev Mod := List Ent
def lkM (M : Mod) (k : ByteArray) : Option (List Lab) := (M.find? fun p => decide (p.1 = k)).map fun p => p.2
def keysM (M : Mod) : List ByteArray := M.map fun p => p.1
def dropM (M : Mod) (key : ByteArray) : Mod := M.filter fun p => decide (p.1 ≠ key)
def setM (M : Mod) (key : ByteArray) (l : List Lab) : Mod := insBy (fun p => p.1) (dropM M key) (key, srtL l)
def hasL (l : List Lab) (y : Lab) : Bool := l.any fun z => decide (z = y)
theorem hasL_iff {l : List Lab} {y : Lab} : hasL l y = true ↔ y ∈ l := by
  unfold hasL
  rw [List.any_eq_true]
  constructor
  · rintro ⟨z, hz, e⟩
    simp at e
    exact e ▸ hz
  · exact fun h => ⟨y, h, by simp⟩
def findM (M : Mod) (y : Lab) : List ByteArray := keysM (M.filter fun p => hasL p.2 y)
def withM (M : Mod) (n : ByteArray) : List ByteArray := keysM (M.filter fun p => hasB (namesI p.2) n)
def sizeM (M : Mod) : Nat := (M.map fun p => p.2.length).sum
def okM (key : ByteArray) (l : List Lab) : Bool := keyI key && rightI l
/-- What Set tells. -/
def errM (key : ByteArray) (l : List Lab) : Int := if okM key l then 0 else 1
def putM (M : Mod) (key : ByteArray) (l : List Lab) : Mod := if okM key l then setM M key l else M
structure GoodM (M : Mod) : Prop where
  sd : Sd (keysM M)
  ent : ∀ p ∈ M, keyI p.1 = true ∧ rightI p.2 = true ∧ SrtA p.2.length p.2
theorem GoodM.nil : GoodM [] := ⟨Sd.nil, by simp⟩
theorem keys_drop (M : Mod) (key : ByteArray) : keysM (dropM M key) = (keysM M).filter fun k => decide (k ≠ key) := by
  unfold keysM dropM
  rw [List.filter_map]
  rfl
theorem drop_ne {M : Mod} {key : ByteArray} : ∀ p ∈ dropM M key, p.1 ≠ key := fun p hp => by simpa using (List.mem_filter.1 hp).2
theorem GoodM.drop {M : Mod} (h : GoodM M) (key : ByteArray) : GoodM (dropM M key) :=
  ⟨by rw [keys_drop]; exact List.Pairwise.filter _ h.sd, fun p hp => h.ent p (List.mem_filter.1 hp).1⟩
theorem mem_setM {M : Mod} {key : ByteArray} {l : List Lab} {p : Ent} : p ∈ setM M key l ↔ p = (key, srtL l) ∨ (p ∈ M ∧ p.1 ≠ key) := by
  unfold setM
  rw [(insBy_perm _ _ _).mem_iff, List.mem_cons]
  unfold dropM
  rw [List.mem_filter, decide_eq_true_eq]
theorem GoodM.set {M : Mod} (h : GoodM M) {key : ByteArray} {l : List Lab} (hk : okM key l = true) : GoodM (setM M key l) := by
  unfold okM at hk
  rw [Bool.and_eq_true] at hk
  refine ⟨insBy_sd (h.drop key).sd drop_ne, fun p hp => ?_⟩
  rcases mem_setM.1 hp with rfl | ⟨hp, _⟩
  · have hs := srtL_ok (right_good hk.2)
    exact ⟨hk.1, by rw [right_perm hs.1]; exact hk.2, hs.2.2⟩
  · exact h.ent p hp
theorem GoodM.put {M : Mod} (h : GoodM M) (key : ByteArray) (l : List Lab) : GoodM (putM M key l) := by
  unfold putM
  split
  · rename_i hk; exact h.set hk
  · exact h
theorem sd_inj {M : Mod} (h : Sd (keysM M)) {p q : Ent} (hp : p ∈ M) (hq : q ∈ M) (e : p.1 = q.1) : p = q := by
  induction M with
  | nil => simp at hp
  | cons a M ih =>
    obtain ⟨h1, h2⟩ := List.pairwise_cons.1 h
    rcases List.mem_cons.1 hp with hpa | hp
    · rcases List.mem_cons.1 hq with hqa | hq
      · rw [hpa, hqa]
      · exact absurd e (lt_ne (by rw [hpa]; exact h1 _ (List.mem_map.2 ⟨q, hq, rfl⟩)))
    · rcases List.mem_cons.1 hq with hqa | hq
      · exact absurd e.symm (lt_ne (by rw [hqa]; exact h1 _ (List.mem_map.2 ⟨p, hp, rfl⟩)))
      · exact ih h2 hp hq
theorem lk_some {M : Mod} (h : Sd (keysM M)) {k : ByteArray} {a : List Lab} : lkM M k = some a ↔ (k, a) ∈ M := by
  unfold lkM
  rw [Option.map_eq_some_iff]
  constructor
  · rintro ⟨p, hp, rfl⟩
    have := List.find?_some hp
    simp at this
    subst this
    exact List.mem_of_find?_eq_some hp
  · intro hm
    cases hf : M.find? fun p => decide (p.1 = k) with
    | none =>
      rw [List.find?_eq_none] at hf
      have := hf _ hm
      simp at this
    | some p =>
      have h1 := List.find?_some hf
      simp at h1
      refine ⟨p, rfl, ?_⟩
      have := sd_inj h (List.mem_of_find?_eq_some hf) hm h1
      rw [this]
theorem lk_none {M : Mod} {k : ByteArray} : lkM M k = none ↔ k ∉ keysM M := by
  unfold lkM keysM
  rw [Option.map_eq_none_iff, List.find?_eq_none, List.mem_map]
  constructor
  · rintro h ⟨p, hp, rfl⟩
    have := h p hp
    simp at this
  · intro h p hp
    simp
    rintro rfl
    exact h ⟨p, hp, rfl⟩
theorem lk_is {M : Mod} {k : ByteArray} : (lkM M k).isSome = true ↔ k ∈ keysM M := by
  cases h : lkM M k with
  | none => simp [lk_none.1 h]
  | some a =>
    have : ¬ lkM M k = none := by rw [h]; simp
    rw [lk_none] at this
    simp at this
    simp [this]
theorem opt_ext {α : Type} {a b : Option α} (h : ∀ x, a = some x ↔ b = some x) : a = b := by
  cases a with
  | none =>
    cases b with
    | none => rfl
    | some y => exact absurd ((h y).2 rfl) (by simp)
  | some x => exact ((h x).1 rfl).symm
theorem lk_drop {M : Mod} (h : Sd (keysM M)) (key : ByteArray) : lkM (dropM M key) = updF (lkM M) key none := by
  funext k
  have hd : Sd (keysM (dropM M key)) := by rw [keys_drop]; exact List.Pairwise.filter _ h
  refine opt_ext fun a => ?_
  rw [lk_some hd]
  unfold dropM updF
  rw [List.mem_filter, decide_eq_true_eq, ← lk_some h]
  by_cases hk : k = key
  · simp [hk]
  · simp [hk]
theorem lk_set {M : Mod} (h : GoodM M) {key : ByteArray} {l : List Lab} (hk : okM key l = true) : lkM (setM M key l) = updF (updF (lkM M) key none) key (some (srtL l)) := by
  funext k
  refine opt_ext fun a => ?_
  rw [lk_some (h.set hk).sd, mem_setM]
  unfold updF
  by_cases hkk : k = key
  · subst hkk
    simp
    exact ⟨fun e => e.symm, fun e => e.symm⟩
  · simp [hkk, lk_some h.sd]
theorem keys_set {M : Mod} (h : GoodM M) {key : ByteArray} {l : List Lab} (hk : okM key l = true) : addL ((keysM M).filter fun k => decide (k ≠ key)) key = keysM (setM M key l) := by
  refine Sd.ext (sd_addL key (List.Pairwise.filter _ h.sd)) (h.set hk).sd fun k => ?_
  rw [mem_addL, ← keys_drop]
  unfold setM keysM
  rw [((insBy_perm _ _ _).map _).mem_iff]
  simp
end Go.Proofs.Ytccjbmmhdbainaa
