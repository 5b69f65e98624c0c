/- What the two loops of pick put out, as they go. -/
import Derived.Test.YtdahdghphjlmfaaGraS
namespace Go.Proofs.Ytdahdghphjlmfaa
open Go.RowKit Sets Gra
set_option linter.unusedVariables false

theorem Try.ruleInfo : (Try.prog.info? 31).map (fun i => (i.zero, i.size, i.bytes)) = some (some (.agg #[.string ByteArray.empty, .string ByteArray.empty, .int .i64 0, .int .i64 0, .int .i64 0]), 5, 56) := by kernel_rfl
theorem Try.fieldSrc (a b c d e : Value) (w : World) : (Instr.field 31 (.agg #[a, b, c, d, e]) 0).run Try.prog w = .ok a w := by kernel_rfl
theorem ruleC_one : ∀ x, ∀ u ∈ ruleC x, u.oneCell' = true := by
  intro x u hu
  simp only [ruleC, List.mem_cons, List.not_mem_nil, or_false] at hu
  rcases hu with rfl | rfl | rfl | rfl | rfl <;> rfl

def ffR (L : List Rule) (s d : ByteArray) : Option Rule := if (intoV L d).src = s then some (intoV L d) else none
def outA (L : List Rule) (D S : List ByteArray) (k : Nat) : List Rule := (S.take k).flatMap fun s => D.filterMap (ffR L s)
def outB (L : List Rule) (D S : List ByteArray) (k : Nat) (s : ByteArray) (j : Nat) : List Rule := outA L D S k ++ (D.take j).filterMap (ffR L s)
theorem outB_zero (L : List Rule) (D S : List ByteArray) (k : Nat) (s : ByteArray) : outB L D S k s 0 = outA L D S k := by simp [outB]
theorem outB_end (L : List Rule) (D S : List ByteArray) (k : Nat) (s : ByteArray) (h : S[k]? = some s) : outB L D S k s D.length = outA L D S (k + 1) := by
  unfold outB outA
  rw [List.take_add_one, h, List.flatMap_append, List.take_of_length_le (Nat.le_refl _)]
  simp
theorem outB_yes (L : List Rule) (D S : List ByteArray) (k : Nat) (s d : ByteArray) (j : Nat) (h : D[j]? = some d) (hs : (intoV L d).src = s) : outB L D S k s (j + 1) = outB L D S k s j ++ [intoV L d] := by
  unfold outB
  rw [List.take_add_one, h, List.filterMap_append]
  simp [ffR, hs]
theorem outB_no (L : List Rule) (D S : List ByteArray) (k : Nat) (s d : ByteArray) (j : Nat) (h : D[j]? = some d) (hs : (intoV L d).src ≠ s) : outB L D S k s (j + 1) = outB L D S k s j := by
  unfold outB
  rw [List.take_add_one, h, List.filterMap_append]
  simp [ffR, hs]
theorem outA_len (L : List Rule) (D S : List ByteArray) (k : Nat) : (outA L D S k).length ≤ k * D.length := by
  induction k generalizing S with
  | zero => simp [outA]
  | succ k ih =>
    unfold outA at *
    rw [List.take_add_one, List.flatMap_append, List.length_append, Nat.add_mul]
    have h2 : ((S[k]?.toList).flatMap fun s => D.filterMap (ffR L s)).length ≤ 1 * D.length := by
      cases S[k]? with
      | none => simp
      | some s => simpa using List.length_filterMap_le (ffR L s) D
    have := ih S
    omega
theorem outB_len (L : List Rule) (D S : List ByteArray) (k : Nat) (s : ByteArray) (j : Nat) : (outB L D S k s j).length ≤ k * D.length + j := by
  unfold outB
  rw [List.length_append]
  have h1 := outA_len L D S k
  have h2 := List.length_filterMap_le (ffR L s) (D.take j)
  have h3 : (D.take j).length ≤ j := by simp; omega
  omega
theorem fm_congr {α β : Type} {f g : α → Option β} : ∀ (l : List α), (∀ x ∈ l, f x = g x) → l.filterMap f = l.filterMap g
  | [], _ => rfl
  | x :: l, h => by
    rw [List.filterMap_cons, List.filterMap_cons, h x (by simp), fm_congr l fun y hy => h y (by simp [hy])]
theorem pick_all (L : List Rule) (so : Rule → Bool) (h : Ok L) : outA L (norm ((L.filter so).map (·.dst))) (norm ((L.filter so).map (·.src))) (norm ((L.filter so).map (·.src))).length = L.filter so := by
  have e : outA L (norm ((L.filter so).map (·.dst))) (norm ((L.filter so).map (·.src))) (norm ((L.filter so).map (·.src))).length = pickL (L.filter so) := by
    unfold outA pickL
    rw [List.take_of_length_le (Nat.le_refl _)]
    congr 1
    funext s
    apply fm_congr
    intro d hd
    rw [mem_norm, List.mem_map] at hd
    obtain ⟨r, hr, rfl⟩ := hd
    have hL := (List.mem_filter.1 hr).1
    rw [(h.filter so).intoL hr]
    simp [ffR, intoV, h.intoL hL]
  rw [e, pickL_eq (h.filter so)]
theorem perm_ent {dn L : List Rule} (h : (dn.map entR ++ []).Perm (L.map entR)) (r : Rule) : r ∈ dn ↔ r ∈ L := by
  rw [List.append_nil] at h
  have hi : ∀ {a b : Rule}, entR a = entR b → a = b := fun e => ruleV_inj (congrArg Prod.snd e)
  constructor
  · intro hr
    obtain ⟨q, hq, e⟩ := List.mem_map.1 (h.mem_iff.1 (List.mem_map.2 ⟨r, hr, rfl⟩))
    exact hi e ▸ hq
  · intro hr
    obtain ⟨q, hq, e⟩ := List.mem_map.1 (h.mem_iff.2 (List.mem_map.2 ⟨r, hr, rfl⟩))
    exact hi e ▸ hq
theorem norm_pick {dn L : List Rule} (h : (dn.map entR ++ []).Perm (L.map entR)) (so : Rule → Bool) (f : Rule → ByteArray) : norm ((dn.filter so).map f) = norm ((L.filter so).map f) := by
  apply norm_congr
  intro x
  simp only [List.mem_map, List.mem_filter, perm_ent h]
end Go.Proofs.Ytdahdghphjlmfaa
