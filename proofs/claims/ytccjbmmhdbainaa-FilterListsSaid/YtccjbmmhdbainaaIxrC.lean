/- The document's index in memory: Labels, Keys, Size. -/
import Derived.Test.YtccjbmmhdbainaaIxrB
namespace Go.Proofs.Ytccjbmmhdbainaa
open Go.RowKit Sets
set_option linter.unusedVariables false
set_option maxRecDepth 100000
set_option linter.unusedSectionVars false
set_option linter.unusedSimpArgs false

/-- An entry in memory. -/
structure EntV where
  key : ByteArray
  a : Option Addr
  n : Nat
  c : Nat
def entC (e : EntV) : List Value := [.string e.key, .slice e.a e.n e.c]
theorem entC_len (e : EntV) : (entC e).length = 2 := rfl
theorem entC_one (e : EntV) : ∀ u ∈ entC e, u.oneCell' = true := by
  intro u hu
  simp only [entC, List.mem_cons, List.not_mem_nil, or_false] at hu
  rcases hu with rfl | rfl <;> rfl
theorem Try.entInfo : (Try.prog.info? 83).map (fun i => (i.zero, i.size, i.bytes)) = some (some (.agg #[.string ByteArray.empty, .slice none 0 0]), 2, 40) := by kernel_rfl
structure EntOk (w : World) (r : Nat) (e : EntV) (m : Ent) : Prop where
  key : e.key = m.1
  row : Row labC w (.slice e.a e.n e.c) m.2
  off : ∀ ad, e.a = some ad → ad.block ≠ r
theorem row_kp {α : Type} {f : α → List Value} {w w' : World} {r : Nat} {A : Option Addr} {n c : Nat} {xs : List α} (h : Row f w (.slice A n c) xs) (hk : Kp [r] w w') (ho : ∀ ad, A = some ad → ad.block ≠ r) : Row f w' (.slice A n c) xs := by
  obtain ⟨A', n', c', h1, h2, h3, h4, h5⟩ := h
  injection h1 with e1 e2 e3
  subst e1 e2 e3
  exact ⟨_, _, _, rfl, h2, h3, h4, hk.rd h5 (fun ad e => by simpa using ho ad e)⟩
theorem EntOk.kp {w w' : World} {r : Nat} {e : EntV} {m : Ent} (h : EntOk w r e m) (hk : Kp [r] w w') : EntOk w' r e m := ⟨h.key, row_kp h.row hk h.off, h.off⟩
theorem EntOk.ext {w w' : World} {r : Nat} {e : EntV} {m : Ent} (h : EntOk w r e m) (hx : Ext w w') : EntOk w' r e m := h.kp (Kp.of_ext hx)
theorem EntOk.cm {w w' : World} {r : Nat} {e : EntV} {m : Ent} (h : EntOk w r e m) (hx : Cm w w') : EntOk w' r e m := ⟨h.key, hx.row h.row, h.off⟩
/-- The rows of entries, one for one. -/
def Ents (w : World) (r : Nat) (es : List EntV) (M : Mod) : Prop := es.length = M.length ∧ ∀ (i : Nat) (e : EntV) (m : Ent), es[i]? = some e → M[i]? = some m → EntOk w r e m
section
variable {w w' : World} {r : Nat} {es fs : List EntV} {M N : Mod}
theorem Ents.nil (w : World) (r : Nat) : Ents w r [] [] := ⟨rfl, by simp⟩
theorem Ents.kp (h : Ents w r es M) (hk : Kp [r] w w') : Ents w' r es M := ⟨h.1, fun i e m h1 h2 => (h.2 i e m h1 h2).kp hk⟩
theorem Ents.ext (h : Ents w r es M) (hx : Ext w w') : Ents w' r es M := h.kp (Kp.of_ext hx)
theorem Ents.cm (h : Ents w r es M) (hx : Cm w w') : Ents w' r es M := ⟨h.1, fun i e m h1 h2 => (h.2 i e m h1 h2).cm hx⟩
theorem Ents.app (h : Ents w r es M) (k : Ents w r fs N) : Ents w r (es ++ fs) (M ++ N) := by
  refine ⟨by rw [List.length_append, List.length_append, h.1, k.1], fun i e m h1 h2 => ?_⟩
  by_cases hi : i < es.length
  · rw [List.getElem?_append_left hi] at h1
    rw [List.getElem?_append_left (by rw [← h.1]; exact hi)] at h2
    exact h.2 i e m h1 h2
  · rw [List.getElem?_append_right (by omega)] at h1
    rw [List.getElem?_append_right (by rw [← h.1]; omega), ← h.1] at h2
    exact k.2 _ e m h1 h2
theorem Ents.one {e : EntV} {m : Ent} (h : EntOk w r e m) : Ents w r [e] [m] := by
  refine ⟨rfl, fun i e' m' h1 h2 => ?_⟩
  cases i with
  | zero =>
    simp at h1 h2
    subst h1 h2
    exact h
  | succ i => simp at h1
theorem Ents.snoc {e : EntV} {m : Ent} (h : Ents w r es M) (k : EntOk w r e m) : Ents w r (es ++ [e]) (M ++ [m]) := h.app (Ents.one k)
theorem Ents.take (h : Ents w r es M) (k : Nat) : Ents w r (es.take k) (M.take k) := by
  refine ⟨by rw [List.length_take, List.length_take, h.1], fun i e m h1 h2 => ?_⟩
  have hi : i < k := by
    have := (List.getElem?_eq_some_iff.1 h1).1
    rw [List.length_take] at this
    omega
  rw [List.getElem?_take_of_lt hi] at h1 h2
  exact h.2 i e m h1 h2
theorem Ents.drop (h : Ents w r es M) (k : Nat) : Ents w r (es.drop k) (M.drop k) := by
  refine ⟨by rw [List.length_drop, List.length_drop, h.1], fun i e m h1 h2 => ?_⟩
  rw [List.getElem?_drop] at h1 h2
  exact h.2 _ e m h1 h2
theorem Ents.at_ (h : Ents w r es M) {i : Nat} {m : Ent} (hm : M[i]? = some m) : ∃ e, es[i]? = some e ∧ EntOk w r e m := by
  have hi := (List.getElem?_eq_some_iff.1 hm).1
  obtain ⟨e, he⟩ : ∃ e, es[i]? = some e := ⟨_, List.getElem?_eq_getElem (by rw [h.1]; exact hi)⟩
  exact ⟨e, he, h.2 i e m he hm⟩
end
/-- The document's index at block r. -/
def RefX (w : World) (r : Nat) (M : Mod) : Prop :=
  ∃ A n c es, w.heap[r]? = some (.cells #[.slice A n c] 78 (0, 0)) ∧ M.length = n ∧ n ≤ c ∧ c ≤ maxLen ∧ Rd w A (es.flatMap entC) ∧ (∀ ad, A = some ad → ad.block ≠ r) ∧ Ents w r es M
section
variable {w w' : World} {r : Nat} {M : Mod}
theorem RefX.ext (h : RefX w r M) (hx : Ext w w') : RefX w' r M := by
  obtain ⟨A, n, c, es, h1, h2, h3, h4, h5, h6, h7⟩ := h
  exact ⟨A, n, c, es, (Kp.of_ext (L := []) hx).heap h1 (by simp), h2, h3, h4, h5.ext hx, h6, h7.ext hx⟩
theorem RefX.cm (h : RefX w r M) (hx : Cm w w') : RefX w' r M := by
  obtain ⟨A, n, c, es, h1, h2, h3, h4, h5, h6, h7⟩ := h
  exact ⟨A, n, c, es, hx.cells _ _ _ _ h1, h2, h3, h4, hx.rd h5, h6, h7.cm hx⟩
theorem RefX.lt (h : RefX w r M) : r < w.heap.size := by
  obtain ⟨A, n, c, es, h1, _⟩ := h
  exact (Array.getElem?_eq_some_iff.1 h1).1
theorem RefX.new (w : World) : RefX (w.alloc (.cells #[.slice none 0 0] 78)) w.heap.size [] :=
  ⟨none, 0, 0, [], heap_alloc_new w _, rfl, by omega, by simp [maxLen], Rd.nil _ _, by simp, Ents.nil _ _⟩
/-- What a call reads of it, in any later world. -/
theorem RefX.parts (h : RefX w r M) : ∃ A n c es, M.length = n ∧ n ≤ c ∧ c ≤ 9223372036854775807 ∧ es.length = n ∧ Ents w r es M ∧ (∀ w', Ext w w' → w'.heap[r]? = some (.cells #[.slice A n c] 78 (0, 0))) ∧ Rd w A (es.flatMap entC) ∧ (∀ ad, A = some ad → ad.block ≠ r) := by
  obtain ⟨A, n, c, es, h1, h2, h3, h4, h5, h6, h7⟩ := h
  exact ⟨A, n, c, es, h2, h3, by simpa [maxLen] using h4, by rw [h7.1, h2], h7, fun w' hx => (Kp.of_ext (L := []) hx).heap h1 (by simp), h5, h6⟩
end
theorem ent_cells {w : World} {ad : Addr} {es : List EntV} {k : Nat} {e : EntV} (h : Rd w (some ad) (es.flatMap entC)) (hx : es[k]? = some e) :
    w.cell? (ad.add (k * 2)) = some (.string e.key) ∧ w.cell? ⟨(ad.add (k * 2)).block, (ad.add (k * 2)).off + 1, none⟩ = some (.slice e.a e.n e.c) :=
  ⟨row_cell entC_len h k 0 hx rfl, row_field entC_len h k 1 (by decide) hx rfl⟩
theorem lk_next {M : Mod} {k : Nat} {key : ByteArray} {q : Ent} (h : lkM (M.take k) key = none) (hq : M[k]? = some q) : lkM (M.take (k + 1)) key = if q.1 = key then some q.2 else none := by
  unfold lkM at *
  rw [Option.map_eq_none_iff] at h
  rw [take_snoc hq, List.find?_append, h]
  simp only [Option.none_or, List.find?_cons, List.find?_nil]
  by_cases hh : q.1 = key
  · simp [hh]
  · simp [hh]
theorem lk_take {M : Mod} {k : Nat} {key : ByteArray} {a : List Lab} (h : lkM (M.take k) key = some a) : lkM M key = some a := by
  unfold lkM at *
  rw [Option.map_eq_some_iff] at *
  obtain ⟨p, hp, e⟩ := h
  exact ⟨p, by rw [← List.take_append_drop k M, List.find?_append, hp]; rfl, e⟩
theorem size_snoc {M : Mod} {k : Nat} {q : Ent} (hq : M[k]? = some q) : sizeM (M.take (k + 1)) = sizeM (M.take k) + q.2.length := by
  unfold sizeM
  rw [take_snoc hq, List.map_append, List.sum_append]
  simp
theorem size_take (M : Mod) (k : Nat) : sizeM (M.take k) ≤ sizeM M := by
  unfold sizeM
  conv => rhs; rw [← List.take_append_drop k M, List.map_append, List.sum_append]
  omega
def szAt (M : Mod) (k : Nat) : Nat := sizeM (M.take k)
end Go.Proofs.Ytccjbmmhdbainaa
