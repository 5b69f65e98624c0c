/- Layer 11: plain facts for the scripts; every script's end. -/
import Derived.Test.YtdahdghphjlmfaaGraB
import Derived.Test.YtdahdghphjlmfaaGraM
namespace Go.Proofs.Ytdahdghphjlmfaa
open Go.RowKit Sets Gra
set_option linter.unusedVariables false

theorem right_ok {r : Rule} (h : rightR r = true) : RuleOk r := by
  simp only [rightR, keyR, Bool.and_eq_true, decide_eq_true_eq] at h
  obtain ⟨⟨⟨a, b⟩, c, d⟩, ⟨e, f⟩, ⟨g, i⟩, j, k, l⟩ := h
  constructor <;> omega
theorem ok_ruleOk {L : List Rule} (h : Ok L) {q : Rule} (hq : q ∈ L) : RuleOk q := right_ok (h.right q hq)
theorem flat_into {L : List Rule} (h : Ok L) {q : Rule} (hq : q ∈ L) : intoV L q.dst = q := by rw [intoV, h.intoL hq]; rfl
theorem flat_is {L : List Rule} (h : Ok L) {q : Rule} (hq : q ∈ L) : (intoL L q.dst).isSome = true := by rw [h.intoL hq]; rfl
theorem flat_made {L : List Rule} (h : Ok L) {q : Rule} (hq : q ∈ L) : intoL L q.src = none := by
  cases hi : intoL L q.src with
  | none => rfl
  | some p =>
    obtain ⟨h1, h2⟩ := intoL_mem hi
    exact absurd h2 (h.flat q hq p h1)
theorem flat_of {L : List Rule} (h : Ok L) {q : Rule} (hq : q ∈ L) : ofL L q.dst = [] := by
  unfold ofL
  rw [List.filter_eq_nil_iff]
  intro p hp
  simpa using (h.flat p hp q hq).symm
theorem len_insR (L : List Rule) (r : Rule) : (insR L r).length = L.length + 1 := by
  rw [(insR_perm L r).length_eq]; rfl
theorem len_addR (L : List Rule) (r : Rule) : (addR L r).2.length ≤ L.length + 1 := by
  unfold addR
  split
  · simp
  split
  · simp
  split
  · simp
  · rw [len_insR]; exact Nat.le_refl _
theorem len_dropR (L : List Rule) (s d : ByteArray) : (dropR L s d).2.length ≤ L.length := by
  unfold dropR
  split
  · exact Nat.le_refl _
  · split
    · exact Nat.le_refl _
    · exact List.length_filter_le _ _
theorem len_goneL (L : List Rule) (s : ByteArray) : (goneL L s).length ≤ L.length := List.length_filter_le _ _
theorem addR_ok {L : List Rule} (h : Ok L) (r : Rule) : Ok (addR L r).2 := h.add r

theorem add_same {L : List Rule} {r : Rule} (h : (addR L r).1 ≠ 0) : (addR L r).2 = L := by
  unfold addR at *
  split
  · rfl
  rename_i h1
  rw [if_neg h1] at h
  split
  · rfl
  rename_i h2
  rw [if_neg h2] at h
  split
  · rfl
  rename_i h3
  rw [if_neg h3] at h
  exact absurd rfl h
theorem add_ok {L : List Rule} {r : Rule} (h : (addR L r).1 = 0) : (addR L r).2 = insR L r ∧ (∀ q ∈ L, q.dst ≠ r.dst) ∧ rightR r = true := by
  unfold addR at *
  split at h
  · exact absurd h (by simp)
  rename_i h1
  split at h
  · exact absurd h (by simp)
  rename_i h2
  split at h
  · exact absurd h (by simp)
  rename_i h3
  rw [if_neg h1, if_neg h2, if_neg h3]
  exact ⟨rfl, intoL_none (by simpa using h2), by simpa using h1⟩
theorem ins_out {L : List Rule} {r : Rule} (h : ∀ q ∈ L, q.dst ≠ r.dst) : (insR L r).filter (fun q => decide (q ≠ r)) = L := by
  have hne : ∀ q ∈ L, decide (q ≠ r) = true := fun q hq => by
    have := h q hq
    rw [decide_eq_true_eq]
    rintro rfl
    exact this rfl
  unfold insR
  rw [List.filter_append, List.filter_cons_of_neg (by simp), List.filter_eq_self.2 (fun q hq => hne q ((List.takeWhile_sublist _).subset hq)), List.filter_eq_self.2 (fun q hq => hne q ((List.dropWhile_sublist _).subset hq)), List.takeWhile_append_dropWhile]
theorem add_into {L : List Rule} {r : Rule} (ho : Ok L) (h : (addR L r).1 = 0) : intoV (addR L r).2 r.dst = r ∧ (intoL (addR L r).2 r.dst).isSome = true := by
  have hk := ho.add r
  have hm : r ∈ (addR L r).2 := by rw [(add_ok h).1, mem_insR]; exact .inl rfl
  exact ⟨flat_into hk hm, flat_is hk hm⟩
theorem add_drop {L : List Rule} {r : Rule} (ho : Ok L) (h : (addR L r).1 = 0) : dropR (addR L r).2 r.src r.dst = ((r, 0), L) := by
  have hk := ho.add r
  have hm : r ∈ (addR L r).2 := by rw [(add_ok h).1, mem_insR]; exact .inl rfl
  unfold dropR
  rw [hk.intoL hm]
  simp only [ne_eq, not_true_eq_false, if_false]
  rw [(add_ok h).1]
  have := ins_out (L := L) (r := r) (add_ok h).2.1
  simp only [ne_eq] at this
  rw [this]
theorem len_split {α : Type} (p : α → Bool) : ∀ L : List α, L.length = (L.filter fun q => !(p q)).length + (L.filter p).length
  | [] => rfl
  | a :: L => by
    have := len_split p L
    cases h : p a <;> simp [h] <;> omega
theorem gone_len (L : List Rule) (s : ByteArray) : (L.length : Int) = (goneL L s).length + (L.filter (isAt s)).length := by
  have h := len_split (isAt s) L
  have e : goneL L s = L.filter fun q => !(isAt s q) := rfl
  rw [e]
  omega
theorem gone_into (L : List Rule) (s : ByteArray) : intoL (goneL L s) s = none := by
  cases hi : intoL (goneL L s) s with
  | none => rfl
  | some q =>
    obtain ⟨h1, h2⟩ := intoL_mem hi
    have := (List.mem_filter.1 h1).2
    simp [h2] at this
theorem gone_of (L : List Rule) (s : ByteArray) : ofL (goneL L s) s = [] := by
  unfold ofL
  rw [List.filter_eq_nil_iff]
  intro q hq
  have := (List.mem_filter.1 hq).2
  simp only [Bool.not_or, Bool.and_eq_true, Bool.not_eq_true', decide_eq_false_iff_not] at this
  simpa using this.1
theorem gone_again (L : List Rule) (s : ByteArray) : (goneL L s).filter (isAt s) = [] := by
  rw [List.filter_eq_nil_iff]
  intro q hq
  have := (List.mem_filter.1 hq).2
  simpa [isAt] using this
/-- A script's cells at place k. -/
theorem gop_cells {w : World} {ad : Addr} {xs : List GOp} {k : Nat} {o : GOp} (h : Rd w (some ad) (xs.flatMap opC)) (hx : xs[k]? = some o) :
    w.cell? (ad.add (k * 6)) = some (.int .i64 o.kind) ∧ w.cell? ⟨(ad.add (k * 6)).block, (ad.add (k * 6)).off + 1, none⟩ = some (.string o.r.src) ∧ w.cell? ⟨(ad.add (k * 6)).block, (ad.add (k * 6)).off + 2, none⟩ = some (.string o.r.dst) ∧
      w.cell? ⟨(ad.add (k * 6)).block, (ad.add (k * 6)).off + 3, none⟩ = some (.int .i64 o.r.kind) ∧ w.cell? ⟨(ad.add (k * 6)).block, (ad.add (k * 6)).off + 4, none⟩ = some (.int .i64 o.r.size) ∧ w.cell? ⟨(ad.add (k * 6)).block, (ad.add (k * 6)).off + 5, none⟩ = some (.int .i64 o.r.align) :=
  ⟨row_cell opC_len h k 0 hx rfl, row_field opC_len h k 1 (by decide) hx rfl, row_field opC_len h k 2 (by decide) hx rfl, row_field opC_len h k 3 (by decide) hx rfl, row_field opC_len h k 4 (by decide) hx rfl, row_field opC_len h k 5 (by decide) hx rfl⟩
/-- A row's cells at place k. -/
theorem rule_cells {w : World} {ad : Addr} {L : List Rule} {k : Nat} {q : Rule} (h : Rd w (some ad) (L.flatMap ruleC)) (hx : L[k]? = some q) :
    w.cell? (ad.add (k * 5)) = some (.string q.src) ∧ w.cell? ⟨(ad.add (k * 5)).block, (ad.add (k * 5)).off + 1, none⟩ = some (.string q.dst) ∧ w.cell? ⟨(ad.add (k * 5)).block, (ad.add (k * 5)).off + 2, none⟩ = some (.int .i64 q.kind) ∧
      w.cell? ⟨(ad.add (k * 5)).block, (ad.add (k * 5)).off + 3, none⟩ = some (.int .i64 q.size) ∧ w.cell? ⟨(ad.add (k * 5)).block, (ad.add (k * 5)).off + 4, none⟩ = some (.int .i64 q.align) :=
  ⟨row_cell ruleC_len h k 0 hx rfl, row_field ruleC_len h k 1 (by decide) hx rfl, row_field ruleC_len h k 2 (by decide) hx rfl, row_field ruleC_len h k 3 (by decide) hx rfl, row_field ruleC_len h k 4 (by decide) hx rfl⟩

theorem GraphAt.base {B B' g : Nat} {w : World} {L : List Rule} (h : GraphAt B' w g L) (hb : B ≤ B') : GraphAt B w g L := by
  obtain ⟨b, l, h1, h2, h3, h4, h5, h6⟩ := h
  exact ⟨b, l, h1, h2, h3, Nat.le_trans hb h4, Nat.le_trans hb h5, h6⟩
/-- What a law holds: a graph behind its start, all that was there kept. -/
structure Gx (w v : World) (g : Nat) (L : List Rule) : Prop where
  at_ : GraphAt w.heap.size v g L
  ext : Ext w v
theorem Gx.later {w v v' : World} {g : Nat} {L : List Rule} (h : Gx w v g L) (k : Ext v v') : Gx w v' g L := ⟨h.at_.ext k, h.ext.trans k⟩
theorem Gx.did {w v v' : World} {g : Nat} {L L' : List Rule} (h : Gx w v g L) (k : GDid w.heap.size v v' g L') : Gx w v' g L' := ⟨k.at_, Below.trans h.ext k.below⟩
theorem Gx.cm {w v v' : World} {g : Nat} {L L' : List Rule} (h : Gx w v g L) (k : GDid w.heap.size v v' g L') : Cm v v' := k.cm
end Go.Proofs.Ytdahdghphjlmfaa
