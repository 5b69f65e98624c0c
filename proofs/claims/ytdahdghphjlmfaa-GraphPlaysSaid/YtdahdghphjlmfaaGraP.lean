/- The plain law of rules: a graph as its rules, sorted; what is added, dropped, picked. -/
import Derived.Test.YtdahdghphjlmfaaSets
namespace Go.Proofs.Ytdahdghphjlmfaa
namespace Gra
open Sets

structure Rule where
  src : ByteArray
  dst : ByteArray
  kind : Int
  size : Int
  align : Int
  deriving DecidableEq

def keyR (s : ByteArray) : Bool := decide (1 ≤ s.size) && decide (s.size ≤ 64)
def rightR (r : Rule) : Bool := decide ((1 ≤ r.size ∧ r.size ≤ 1099511627776) ∧ (0 ≤ r.align ∧ r.align < r.size)) && (keyR r.src && (keyR r.dst && (decide (r.src ≠ r.dst) && decide (1 ≤ r.kind ∧ r.kind ≤ 7))))
def aheadR (a b : Rule) : Bool := if a.src = b.src then ltB a.dst b.dst else ltB a.src b.src
def Lt (a b : Rule) : Prop := aheadR a b = true

theorem Lt.irrefl (a : Rule) : ¬ Lt a a := by simp [Lt, aheadR, lt_irrefl]
theorem Lt.trans {a b c : Rule} (h : Lt a b) (k : Lt b c) : Lt a c := by
  unfold Lt aheadR at *
  by_cases h1 : a.src = b.src
  · rw [if_pos h1] at h
    by_cases h2 : b.src = c.src
    · rw [if_pos h2] at k
      rw [if_pos (h1.trans h2)]
      exact lt_trans h k
    · rw [if_neg h2] at k
      rw [if_neg (by rw [h1]; exact h2), h1]
      exact k
  · rw [if_neg h1] at h
    by_cases h2 : b.src = c.src
    · rw [if_neg (by rw [← h2]; exact h1), ← h2]
      exact h
    · rw [if_neg h2] at k
      have h3 := lt_trans h k
      rw [if_neg (lt_ne h3)]
      exact h3
theorem Lt.asymm {a b : Rule} (h : Lt a b) (k : Lt b a) : a = b := absurd (h.trans k) (Lt.irrefl a)
theorem Lt.total {a b : Rule} (h : ¬ Lt a b) (hne : a.dst ≠ b.dst) : Lt b a := by
  unfold Lt aheadR at *
  by_cases h1 : a.src = b.src
  · rw [if_pos h1] at h
    rw [if_pos h1.symm]
    cases hb : ltB b.dst a.dst with
    | true => rfl
    | false => exact absurd (lt_tri (by simpa using h) hb) hne
  · rw [if_neg h1] at h
    rw [if_neg (Ne.symm h1)]
    cases hb : ltB b.src a.src with
    | true => rfl
    | false => exact absurd (lt_tri (by simpa using h) hb) h1

/-- Sorted, no two into one key, each one right, none made of a made one. -/
structure Ok (L : List Rule) : Prop where
  sorted : L.Pairwise Lt
  nodup : (L.map (·.dst)).Nodup
  right : ∀ r ∈ L, rightR r = true
  flat : ∀ r ∈ L, ∀ q ∈ L, q.dst ≠ r.src

theorem Ok.nil : Ok [] := ⟨List.Pairwise.nil, by simp, by simp, by simp⟩
theorem Ok.filter {L : List Rule} (h : Ok L) (p : Rule → Bool) : Ok (L.filter p) :=
  ⟨h.sorted.filter p, h.nodup.sublist (List.Sublist.map _ (List.filter_sublist)), fun r hr => h.right r (List.mem_filter.1 hr).1, fun r hr q hq => h.flat r (List.mem_filter.1 hr).1 q (List.mem_filter.1 hq).1⟩
theorem Ok.inj {L : List Rule} (h : Ok L) {r q : Rule} (hr : r ∈ L) (hq : q ∈ L) (e : r.dst = q.dst) : r = q := by
  obtain ⟨i, hi⟩ := List.mem_iff_getElem?.1 hr
  obtain ⟨j, hj⟩ := List.mem_iff_getElem?.1 hq
  have hi' : (L.map (·.dst))[i]? = some r.dst := by rw [List.getElem?_map, hi]; rfl
  have hj' : (L.map (·.dst))[j]? = some r.dst := by rw [List.getElem?_map, hj, e]; rfl
  have := (List.getElem?_inj (List.getElem?_eq_some_iff.1 hi').1 h.nodup).1 (hi'.trans hj'.symm)
  subst this
  rw [hi] at hj
  injection hj

def intoL (L : List Rule) (dst : ByteArray) : Option Rule := L.find? fun r => decide (r.dst = dst)
def ofL (L : List Rule) (src : ByteArray) : List Rule := L.filter fun r => decide (r.src = src)
def goneL (L : List Rule) (key : ByteArray) : List Rule := L.filter fun r => !(decide (r.src = key) || decide (r.dst = key))
/-- A rule in its place. -/
def insR (L : List Rule) (r : Rule) : List Rule := L.takeWhile (fun q => aheadR q r) ++ r :: L.dropWhile (fun q => aheadR q r)
def addR (L : List Rule) (r : Rule) : Int × List Rule :=
  if rightR r = false then (1, L) else if (intoL L r.dst).isSome then (6, L) else if (intoL L r.src).isSome || decide (0 < (ofL L r.dst).length) then (10, L) else (0, insR L r)
def zeroR : Rule := ⟨⟨#[]⟩, ⟨#[]⟩, 0, 0, 0⟩
def dropR (L : List Rule) (src dst : ByteArray) : (Rule × Int) × List Rule :=
  match intoL L dst with
  | none => ((zeroR, 5), L)
  | some r => if r.src ≠ src then ((zeroR, 5), L) else ((r, 0), L.filter fun q => decide (q ≠ r))

theorem intoL_mem {L : List Rule} {d : ByteArray} {r : Rule} (h : intoL L d = some r) : r ∈ L ∧ r.dst = d := by
  unfold intoL at h
  exact ⟨List.mem_of_find?_eq_some h, by simpa using List.find?_some h⟩
theorem intoL_none {L : List Rule} {d : ByteArray} (h : intoL L d = none) : ∀ r ∈ L, r.dst ≠ d := by
  unfold intoL at h
  intro r hr
  simpa using List.find?_eq_none.1 h r hr
theorem Ok.intoL {L : List Rule} (h : Ok L) {r : Rule} (hr : r ∈ L) : intoL L r.dst = some r := by
  cases hf : Gra.intoL L r.dst with
  | none => exact absurd rfl (intoL_none hf r hr)
  | some q =>
    obtain ⟨h1, h2⟩ := intoL_mem hf
    rw [h.inj h1 hr h2]

theorem mem_insR (L : List Rule) (r x : Rule) : x ∈ insR L r ↔ x = r ∨ x ∈ L := by
  unfold insR
  rw [List.mem_append, List.mem_cons]
  conv => rhs; rw [← List.takeWhile_append_dropWhile (p := fun q => aheadR q r) (l := L), List.mem_append]
  constructor
  · rintro (h | h | h)
    · exact .inr (.inl h)
    · exact .inl h
    · exact .inr (.inr h)
  · rintro (h | h | h)
    · exact .inr (.inl h)
    · exact .inl h
    · exact .inr (.inr h)
theorem insR_perm (L : List Rule) (r : Rule) : (insR L r).Perm (r :: L) := by
  unfold insR
  refine List.perm_middle.trans ?_
  rw [List.takeWhile_append_dropWhile]
theorem dropWhile_head {α : Type} (p : α → Bool) : ∀ (l : List α) (x : α) (t : List α), l.dropWhile p = x :: t → p x = false
  | [], _, _, h => by simp at h
  | a :: l, x, t, h => by
    rw [List.dropWhile_cons] at h
    split at h
    · exact dropWhile_head p l x t h
    · rename_i hn
      injection h with h1 _
      rw [← h1]
      simpa using hn
theorem takeWhile_all {α : Type} (p : α → Bool) : ∀ (l : List α) (x : α), x ∈ l.takeWhile p → p x = true
  | [], _, h => by simp at h
  | a :: l, x, h => by
    rw [List.takeWhile_cons] at h
    split at h
    · rename_i ha
      rcases List.mem_cons.1 h with rfl | h
      · exact ha
      · exact takeWhile_all p l x h
    · simp at h
theorem sorted_insR {L : List Rule} (h : L.Pairwise Lt) {r : Rule} (hd : ∀ q ∈ L, q.dst ≠ r.dst) : (insR L r).Pairwise Lt := by
  have hs := h
  rw [← List.takeWhile_append_dropWhile (p := fun q => aheadR q r) (l := L), List.pairwise_append] at hs
  obtain ⟨h1, h2, h3⟩ := hs
  unfold insR
  rw [List.pairwise_append]
  have hrest : ∀ x ∈ L.dropWhile (fun q => aheadR q r), Lt r x := by
    intro x hx
    cases hdw : L.dropWhile (fun q => aheadR q r) with
    | nil => rw [hdw] at hx; simp at hx
    | cons y t =>
      have hy := dropWhile_head _ _ _ _ hdw
      have hyL : y ∈ L := (List.dropWhile_sublist _).subset (by rw [hdw]; simp)
      have hry : Lt r y := Lt.total (a := y) (b := r) (by simp [Lt, hy]) (hd y hyL)
      rw [hdw] at hx h2
      rcases List.mem_cons.1 hx with rfl | hx
      · exact hry
      · exact hry.trans ((List.pairwise_cons.1 h2).1 x hx)
  refine ⟨h1, List.pairwise_cons.2 ⟨hrest, h2⟩, ?_⟩
  intro a ha b hb
  have har : Lt a r := takeWhile_all _ _ a ha
  rcases List.mem_cons.1 hb with rfl | hb
  · exact har
  · exact h3 a ha b hb

theorem right_parts {r : Rule} (h : rightR r = true) : (1 ≤ r.src.size ∧ r.src.size ≤ 64) ∧ (1 ≤ r.dst.size ∧ r.dst.size ≤ 64) ∧ r.src ≠ r.dst := by
  simp only [rightR, keyR, Bool.and_eq_true, decide_eq_true_eq] at h
  exact ⟨h.2.1, h.2.2.1, h.2.2.2.1⟩
theorem Ok.add {L : List Rule} (h : Ok L) (r : Rule) : Ok (addR L r).2 := by
  unfold addR
  split
  · exact h
  rename_i hr
  split
  · exact h
  rename_i hd
  split
  · exact h
  rename_i hs
  have hr' : rightR r = true := by simpa using hr
  have hd' : ∀ q ∈ L, q.dst ≠ r.dst := intoL_none (by simpa using hd)
  simp only [Bool.or_eq_true, decide_eq_true_eq, not_or] at hs
  have hs' : ∀ q ∈ L, q.dst ≠ r.src := intoL_none (by simpa using hs.1)
  have ho : ∀ q ∈ L, q.src ≠ r.dst := by
    intro q hq e
    have : q ∈ ofL L r.dst := List.mem_filter.2 ⟨hq, by simpa using e⟩
    exact hs.2 (List.length_pos_of_mem this)
  refine ⟨sorted_insR h.sorted hd', ?_, ?_, ?_⟩
  · have := ((insR_perm L r).map (·.dst)).nodup_iff.2
    refine this ?_
    rw [List.map_cons, List.nodup_cons]
    refine ⟨fun hm => ?_, h.nodup⟩
    obtain ⟨q, hq, e⟩ := List.mem_map.1 hm
    exact hd' q hq e
  · intro q hq
    rcases (mem_insR L r q).1 hq with rfl | hq
    · exact hr'
    · exact h.right q hq
  · intro a ha b hb
    rcases (mem_insR L r a).1 ha with e1 | ha2
    · rcases (mem_insR L r b).1 hb with e2 | hb2
      · rw [e1, e2]
        exact (right_parts hr').2.2.symm
      · rw [e1]
        exact hs' b hb2
    · rcases (mem_insR L r b).1 hb with e2 | hb2
      · rw [e2]
        exact (ho a ha2).symm
      · exact h.flat a ha2 b hb2
theorem Ok.drop {L : List Rule} (h : Ok L) (src dst : ByteArray) : Ok (dropR L src dst).2 := by
  unfold dropR
  split
  · exact h
  · split
    · exact h
    · exact h.filter _
theorem Ok.gone {L : List Rule} (h : Ok L) (key : ByteArray) : Ok (goneL L key) := h.filter _

/-- What the two loops over names pick. -/
def pickL (M : List Rule) : List Rule := (norm (M.map (·.src))).flatMap fun s => (norm (M.map (·.dst))).filterMap fun d => (intoL M d).bind fun r => if r.src = s then some r else none
theorem pickL_eq {M : List Rule} (h : Ok M) : pickL M = M := by
  have hsorted : (pickL M).Pairwise Lt := by
    unfold pickL
    rw [List.pairwise_flatMap]
    constructor
    · intro s hs
      rw [List.pairwise_filterMap]
      refine (sd_norm (M.map (·.dst))).imp ?_
      intro d1 d2 hlt r1 h1 r2 h2
      simp only [Option.bind_eq_some_iff] at h1 h2
      obtain ⟨q1, hq1, e1⟩ := h1
      obtain ⟨q2, hq2, e2⟩ := h2
      split at e1
      · rename_i hs1
        injection e1 with e1
        subst e1
        split at e2
        · rename_i hs2
          injection e2 with e2
          subst e2
          unfold Lt aheadR
          rw [if_pos (hs1.trans hs2.symm), (intoL_mem hq1).2, (intoL_mem hq2).2]
          exact hlt
        · cases e2
      · cases e1
    · refine (sd_norm (M.map (·.src))).imp ?_
      intro s1 s2 hlt r1 h1 r2 h2
      simp only [List.mem_filterMap, Option.bind_eq_some_iff] at h1 h2
      obtain ⟨d1, _, q1, _, e1⟩ := h1
      obtain ⟨d2, _, q2, _, e2⟩ := h2
      split at e1
      · rename_i hs1
        injection e1 with e1
        subst e1
        split at e2
        · rename_i hs2
          injection e2 with e2
          subst e2
          unfold Lt aheadR
          rw [hs1, hs2, if_neg (lt_ne hlt)]
          exact hlt
        · cases e2
      · cases e1
  refine List.Perm.eq_of_pairwise (le := Lt) (fun a b _ _ h1 h2 => h1.asymm h2) hsorted h.sorted ?_
  · have hnp : (pickL M).Nodup := hsorted.imp (S := fun a b => a ≠ b) fun {a b} hl (e : a = b) => Lt.irrefl b (by rw [e] at hl; exact hl)
    have hn : M.Nodup := by
      have := h.nodup
      rw [List.Nodup, List.pairwise_map] at this
      exact this.imp fun hne e => hne (congrArg _ e)
    rw [List.perm_ext_iff_of_nodup hnp hn]
    intro r
    unfold pickL
    simp only [List.mem_flatMap, List.mem_filterMap, Option.bind_eq_some_iff, mem_norm, List.mem_map]
    constructor
    · rintro ⟨s, _, d, _, q, hq, e⟩
      split at e
      · injection e with e
        subst e
        exact (intoL_mem hq).1
      · cases e
    · intro hr
      exact ⟨r.src, ⟨r, hr, rfl⟩, r.dst, ⟨r, hr, rfl⟩, r, h.intoL hr, by simp⟩
end Gra
end Go.Proofs.Ytdahdghphjlmfaa
