/- Ranging over a map: each entry comes once, in whatever order. -/
import Derived.Test.YtccjbmmhdbainaaMp
namespace Go.Proofs.Ytccjbmmhdbainaa
open Go.RowKit
open Go.ChangeMaps (setBlock)
set_option linter.unusedVariables false

section
variable {κ : Type}
/-- Block r is an iterator over the map at block b; rest: what is still to come. -/
def RangeAt (enc : κ → Value) (ok : κ → Prop) (w : World) (r b : Nat) (l rest : List (κ × Value)) : Prop :=
  ∃ es clock seen, w.heap[b]? = some (.map es clock) ∧ es.toList.map kv = l.map (fun p => (enc p.1, p.2)) ∧ (es.toList.map (·.born)).Nodup ∧ (∀ e ∈ es.toList, e.born < clock) ∧ (l.map (·.1)).Nodup ∧ (∀ p ∈ l, ok p.1) ∧
    w.heap[r]? = some (.mapIter (some b) clock seen clock) ∧ (leftOf es seen).toList.map kv = rest.map (fun p => (enc p.1, p.2))

variable {P : Program} {enc : κ → Value} {ok : κ → Prop} {w w' : World} {r b : Nat} {l rest : List (κ × Value)}
theorem RangeAt.map (h : RangeAt enc ok w r b l rest) : MapAt enc ok w b l := by
  obtain ⟨es, clock, seen, h1, h2, h3, h4, h5, h6, _⟩ := h
  exact ⟨es, clock, h1, h2, h3, h4, h5, h6⟩
theorem RangeAt.kp {L : List Nat} (h : RangeAt enc ok w r b l rest) (hk : Kp L w w') (hb : b ∉ L) (hr : r ∉ L) : RangeAt enc ok w' r b l rest := by
  obtain ⟨es, clock, seen, h1, h2, h3, h4, h5, h6, h7, h8⟩ := h
  exact ⟨es, clock, seen, hk.heap h1 hb, h2, h3, h4, h5, h6, hk.heap h7 hr, h8⟩
theorem RangeAt.ext (h : RangeAt enc ok w r b l rest) (hx : Ext w w') : RangeAt enc ok w' r b l rest := h.kp (L := []) (Kp.of_ext hx) (by simp) (by simp)

theorem MapAt.range (h : MapAt enc ok w b l) {t k e : TypeId} (ht : P.underlying t = some (.map k e)) :
    ∃ w', (Instr.range t (.map (some b))).run P w = .ok (.pointer (some ⟨w.heap.size, 0, none⟩)) w' ∧ RangeAt enc ok w' w.heap.size b l l ∧ Ext w w' := by
  obtain ⟨es, clock, h1, h2, h3, h4, h5, h6⟩ := h
  refine ⟨w.alloc (.mapIter (some b) clock #[] clock), ?_, ⟨es, clock, #[], ?_, h2, h3, h4, h5, h6, heap_alloc_new w _, ?_⟩, Ext.alloc w _⟩
  · simp [Instr.range, run_underlying ht, MapKept.run_getObj_map h1, Result.andThen, newObj, Sem.run]
  · exact (Kp.of_ext (L := []) (Ext.alloc w _)).heap h1 (by simp)
  · rw [← h2]
    have : leftOf es #[] = es := by
      unfold leftOf
      exact Array.filter_eq_self.2 (by intro a _; simp)
    rw [this]

theorem left_push (es : Array MapEntry) (seen : Array Nat) (s : Nat) : (leftOf es (seen.push s)).toList = (leftOf es seen).toList.filter fun e => !(e.born == s) := by
  unfold leftOf
  rw [Array.toList_filter, Array.toList_filter, List.filter_filter]
  congr 1
  funext e
  simp only [Array.contains_push]
  cases seen.contains e.born <;> cases (e.born == s) <;> rfl

theorem perm_erase {α : Type} : ∀ (l : List α) (j : Nat) (x : α), l[j]? = some x → l.Perm (x :: l.eraseIdx j)
  | [], _, _, h => by simp at h
  | a :: l, 0, x, h => by
    simp at h
    subst h
    exact List.Perm.refl _
  | a :: l, j + 1, x, h => by
    have := perm_erase l j x (by simpa using h)
    exact (this.cons a).trans (List.Perm.swap x a _)
theorem RangeAt.next (h : RangeAt enc ok w r b l rest) :
    (rest = [] ∧ ∀ ty, (Instr.next (.pointer (some ⟨r, 0, none⟩)) false ty).run P w = .ok (.tuple #[.bool false]) w) ∨
    ∃ x rest' w', rest.Perm (x :: rest') ∧ (∀ ty, (Instr.next (.pointer (some ⟨r, 0, none⟩)) false ty).run P w = .ok (.tuple #[.bool true, enc x.1, x.2]) w') ∧
      (Instr.entry (.pointer (some ⟨r, 0, none⟩))).run P w' = .ok (.tuple #[enc x.1, x.2]) w' ∧ RangeAt enc ok w' r b l rest' ∧ Kp [r] w w' := by
  obtain ⟨es, clock, seen, h1, h2, h3, h4, h5, h6, h7, h8⟩ := h
  have hne : r ≠ b := by
    rintro rfl
    rw [h1] at h7
    cases h7
  rcases run_next_at (P := P) w 0 r b clock clock seen es clock h7 h1 h4 (Nat.le_refl _) with ⟨h0, hrun⟩ | ⟨e, he, w1, hw1, hrun⟩
  · left
    refine ⟨?_, fun ty => hrun⟩
    have : (leftOf es seen).toList = [] := by
      rw [← List.length_eq_zero_iff]
      simpa using h0
    rw [this] at h8
    exact List.map_eq_nil_iff.1 h8.symm
  · right
    obtain ⟨j, hj⟩ := List.mem_iff_getElem?.1 he
    obtain ⟨x, hx, hk1, hk2⟩ := get_kv h8 hj
    have hw1h : ∀ i : Nat, w1.heap[i]? = w.heap[i]? := by rcases hw1 with rfl | rfl <;> exact fun _ => rfl
    have hmem : e ∈ es.toList := by
      unfold leftOf at he
      rw [Array.toList_filter] at he
      exact (List.mem_filter.1 he).1
    have hb2 : (setBlock w1 r (.mapIter (some b) clock (seen.push e.born) clock)).heap[b]? = some (.map es clock) := by
      show (w1.heap.setIfInBounds r _)[b]? = _
      rw [Array.getElem?_setIfInBounds_ne hne, hw1h]
      exact h1
    have hr2 : (setBlock w1 r (.mapIter (some b) clock (seen.push e.born) clock)).heap[r]? = some (.mapIter (some b) clock (seen.push e.born) clock) := set_same (o := .mapIter (some b) clock seen clock) (by rw [hw1h]; exact h7)
    have hnl : (leftOf es seen).toList.Pairwise (fun a c => a.born ≠ c.born) := by
      unfold leftOf
      rw [Array.toList_filter]
      rw [List.Nodup, List.pairwise_map] at h3
      exact h3.filter _
    have hflt : (leftOf es (seen.push e.born)).toList = (leftOf es seen).toList.eraseIdx j := by
      rw [left_push]
      refine ChangeMaps.filter_eq_eraseIdx (fun a : MapEntry => a.born == e.born) _ j e hj (by simp) (hnl.imp ?_)
      intro a c hn hh
      simp only [beq_iff_eq] at hh
      exact hn (hh.1.trans hh.2.symm)
    refine ⟨x, rest.eraseIdx j, setBlock w1 r (.mapIter (some b) clock (seen.push e.born) clock), ?_, fun ty => ?_, ?_, ⟨es, clock, seen.push e.born, hb2, h2, h3, h4, h5, h6, hr2, ?_⟩, ?_⟩
    · exact perm_erase rest j x hx
    · rw [← hk1, ← hk2]
      exact hrun
    · rw [← hk1, ← hk2]
      exact run_entry_at _ r b clock seen es clock e hr2 hb2 hmem h3
    · rw [hflt, ChangeMaps.map_eraseIdx, h8, ChangeMaps.map_eraseIdx]
    · have hd : Ext w w1 := by
        rcases hw1 with rfl | rfl
        · exact Ext.refl _
        · exact Ext.drew w
      exact (Kp.of_ext (L := [r]) hd).and (kp_setBlock w1 r _)
theorem RangeAt.nodup (h : RangeAt enc ok w r b l rest) : r ≠ b := by
  obtain ⟨es, clock, seen, h1, h2, h3, h4, h5, h6, h7, h8⟩ := h
  rintro rfl
  rw [h1] at h7
  cases h7
end
end Go.Proofs.Ytccjbmmhdbainaa
