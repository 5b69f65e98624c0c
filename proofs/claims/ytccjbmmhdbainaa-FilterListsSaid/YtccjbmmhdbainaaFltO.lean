/- Arguments of layer 10 opened: terms, rows of terms. -/
import Derived.Test.YtccjbmmhdbainaaFltA
import Derived.Test.YtccjbmmhdbainaaIdxO
import Derived.OpenShut
namespace Go.Proofs.Ytccjbmmhdbainaa
open Go.ChangeShapes Go.WideShapes Go.ChangeAt Go.RowKit Go.Deep
set_option linter.unusedVariables false
set_option linter.unusedSectionVars false
set_option linter.unusedSimpArgs false
set_option maxRecDepth 100000

theorem Try.cellsStr : Try.prog.cellsOf 9 = 1 := by kernel_rfl
structure TIn where
  t : Tm
  v : Value
instance : Inhabited TIn := ⟨⟨⟨⟨#[]⟩, false, []⟩, .slice none 0 0⟩⟩
section
variable {H : Type} {enc : TypeId × Value → H} {W : World} {base : Nat} {v : Value} {d : DataW H} {p : List MemPlace}
theorem part_strs {n : Nat} {y : DataW H × List MemPlace} (h : DataW.trod enc Try.prog W 0 (fun _ => true) true n 22 [v] = some y) : ∃ xs, Txt W v xs ∧ ∀ s ∈ xs, okS s := by
  rcases open_strings Try.underlying22 Try.underlying9 Try.cellsStr h with ⟨hcs, _⟩ | ⟨a, len', cap', ss, hcs, _, hl, hm, hz, _, hcell, hws⟩
  · injection hcs with hcs
    subst hcs
    exact ⟨[], ⟨none, 0, 0, rfl, rfl, by omega, by omega, Rd.nil _ _⟩, fun s hs => by simp at hs⟩
  · injection hcs with hcs
    subst hcs
    simp only [if_true] at hz
    refine ⟨ss.take len', ⟨some a, len', cap', rfl, by rw [List.length_take]; omega, hl, by simpa [maxLen] using hm, fun _ => ⟨a, rfl, fun j u hu => ?_⟩⟩, fun s hs => by
      have := hws s (List.mem_of_mem_take hs)
      simpa [okS, maxLen] using this⟩
    rw [List.getElem?_map, List.getElem?_take] at hu
    split at hu
    · rename_i hj
      rw [hcell j (by omega)]
      cases hss : ss[j]? with
      | none => simp [hss] at hu
      | some s =>
        simp [hss] at hu
        rw [← hu]
        simp [hss]
    · simp at hu
theorem open_tm (hv : Value.okWide Try.prog W .any base 24 v) (h : DataW.Trod enc Try.prog W 0 (fun _ => true) true 24 v d p) : ∃ (t : Tm) (u : Value), v = tmV t u ∧ Txt W u t.vals ∧ TmOk t := by
  obtain ⟨cs, rfl, hl, m, hj⟩ := open_struct Try.underlying24 (by kernel_rfl) (by kernel_rfl) hv h
  obtain ⟨a0, a1, a2, rfl⟩ := list3 hl
  obtain ⟨v0, y0, c0, t0⟩ := hj 0 _ rfl
  obtain ⟨v1, y1, c1, t1⟩ := hj 1 _ rfl
  obtain ⟨v2, y2, c2, t2⟩ := hj 2 _ rfl
  injection c0 with c0; injection c1 with c1; injection c2 with c2
  subst c0 c1 c2
  obtain ⟨x0, rfl, b0⟩ := part_str Try.underlying9 t0
  obtain ⟨x1, rfl⟩ := part_bool Try.underlying4 t1
  obtain ⟨xs, b2, b3⟩ := part_strs t2
  exact ⟨⟨x0, x1, xs⟩, _, rfl, b2, b0, b3⟩
end
end Go.Proofs.Ytccjbmmhdbainaa

/- Arguments of layer 10 opened: rows of labels. -/
namespace Go.Proofs.Ytccjbmmhdbainaa
open Go.ChangeShapes Go.WideShapes Go.ChangeAt Go.RowKit Go.Deep
set_option linter.unusedVariables false
set_option linter.unusedSectionVars false
set_option maxRecDepth 100000
section
variable {H : Type} {enc : TypeId × Value → H} {W : World} {base : Nat} {v : Value} {d : DataW H} {p : List MemPlace}
theorem open_labs (hv : Value.okWide Try.prog W .any base 25 v) (h : DataW.Trod enc Try.prog W 0 (fun _ => true) true 25 v d p) : ∃ xs, Row labC W v xs ∧ ∀ x ∈ xs, okL x := by
  obtain ⟨a0, len, cap, rfl⟩ := okWide_slice Try.underlying25 hv
  obtain ⟨fuel, hf⟩ := h
  exact part_labs hf
theorem part_terms {n : Nat} {y : DataW H × List MemPlace} (h : DataW.trod enc Try.prog W 0 (fun _ => true) true n 44 [v] = some y) : ∃ ts, Tms W v ts ∧ ∀ t ∈ ts, TmOk t := by
  rcases open_slice_fields Try.underlying44 Try.underlying24 (by kernel_rfl) (by kernel_rfl) h with hcs | ⟨a, len, cap, hcs, hl, hm, hi⟩
  · injection hcs with hcs
    subst hcs
    exact ⟨[], ⟨[], ⟨none, 0, 0, rfl, rfl, by omega, by simp [maxLen], Rd.nil _ _⟩, TmsT.nil _⟩, by simp⟩
  · injection hcs with hcs
    subst hcs
    have hrow : ∃ xs : List (TmE × List ByteArray), Row (fun e => tmC e.1) W (.slice a len cap) xs ∧ ∀ x ∈ xs, okS x.1.name ∧ Txt W (.slice x.1.a x.1.n x.1.c) x.2 ∧ ∀ s ∈ x.2, okS s := by
      haveI : Inhabited (TmE × List ByteArray) := ⟨(⟨⟨#[]⟩, false, none, 0, 0⟩, [])⟩
      refine row_of (f := fun e : TmE × List ByteArray => tmC e.1) (fun e => tmC_len e.1) (by decide) hl hm fun i hil => ?_
      obtain ⟨m, hf⟩ := hi i hil
      obtain ⟨v0, y0, c0, t0⟩ := hf 0 _ rfl
      obtain ⟨v1, y1, c1, t1⟩ := hf 1 _ rfl
      obtain ⟨v2, y2, c2, t2⟩ := hf 2 _ rfl
      obtain ⟨x0, rfl, b0⟩ := part_str Try.underlying9 t0
      obtain ⟨x1, rfl⟩ := part_bool Try.underlying4 t1
      obtain ⟨xs, b2, b3⟩ := part_strs t2
      obtain ⟨A2, n2, k2, rfl, g1, g2, g3, g4⟩ := b2
      refine ⟨(⟨x0, x1, A2, n2, k2⟩, xs), ⟨b0, ⟨A2, n2, k2, rfl, g1, g2, g3, g4⟩, b3⟩, fun j u hu => ?_⟩
      have hj : j < 3 := by
        have := (List.getElem?_eq_some_iff.1 hu).1
        simpa [tmC] using this
      have hs : j = 0 ∨ j = 1 ∨ j = 2 := by omega
      rcases hs with rfl | rfl | rfl
      · exact c0.trans (by simpa [tmC] using hu)
      · exact c1.trans (by simpa [tmC] using hu)
      · exact c2.trans (by simpa [tmC] using hu)
    obtain ⟨xs, hr, hok⟩ := hrow
    refine ⟨xs.map fun e => ⟨e.1.name, e.1.not, e.2⟩, ⟨xs.map (·.1), ?_, by simp, ?_⟩, ?_⟩
    · obtain ⟨A, n, c, e1, e2, e3, e4, e5⟩ := hr
      exact ⟨A, n, c, e1, by simpa using e2, e3, e4, by rw [List.flatMap_map]; exact e5⟩
    · intro i e t h1 h2
      rw [List.getElem?_map] at h1 h2
      cases hx : xs[i]? with
      | none => rw [hx] at h1; simp at h1
      | some z =>
        rw [hx] at h1 h2
        simp at h1 h2
        subst h1 h2
        exact ⟨rfl, rfl, (hok z (List.mem_of_getElem? hx)).2.1⟩
    · intro t ht
      rw [List.mem_map] at ht
      obtain ⟨z, hz, rfl⟩ := ht
      exact ⟨(hok z hz).1, (hok z hz).2.2⟩
theorem open_terms (hv : Value.okWide Try.prog W .any base 44 v) (h : DataW.Trod enc Try.prog W 0 (fun _ => true) true 44 v d p) : ∃ ts, Tms W v ts ∧ ∀ t ∈ ts, TmOk t := by
  obtain ⟨a0, len, cap, rfl⟩ := okWide_slice Try.underlying44 hv
  obtain ⟨fuel, hf⟩ := h
  exact part_terms hf
end
end Go.Proofs.Ytccjbmmhdbainaa
