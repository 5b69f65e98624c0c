/- A slice of structs that hold structs, opened. -/
import Derived.Test.YtdahdghphjlmfaaGraE
namespace Go.Proofs.Ytdahdghphjlmfaa
open Go.ChangeShapes Go.WideShapes Go.ChangeAt Go.RowKit Go.Deep Gra
set_option linter.unusedVariables false

section
variable {H : Type} {enc : TypeId × Value → H} {P : Program} {W : World} {base : Nat} {spare : Nat → Bool} {held : Bool} {n : Nat}
theorem open_slice_cells {t e : TypeId} {C fuel : Nat} {cs : List Value} {x : DataW H × List MemPlace} (ht : P.underlying t = some (.slice e)) (hC : P.cellsOf e = C)
    (h : DataW.trod enc P W base spare held fuel t cs = some x) :
    (cs = [.slice none 0 0]) ∨
    ∃ (a : Addr) (len cap : Nat), cs = [.slice (some a) len cap] ∧ len ≤ cap ∧ cap ≤ maxLen ∧
      ∀ i, i < len → ∃ (m : Nat) (cs' : List Value) (y : DataW H × List MemPlace), cs'.length = C ∧ DataW.trod enc P W base spare held m e cs' = some y ∧ ∀ j, j < C → W.cell? (a.add (i * C + j)) = cs'[j]? := by
  rcases open_slice ht h with h0 | ⟨a, len, cap, m, n, D, Pl, hcs, hb, hl, hm, hmm, hx, hi⟩
  · exact .inl h0.1
  · refine .inr ⟨a, len, cap, hcs, hl, hm, fun i him => ?_⟩
    obtain ⟨cs', hc, ht'⟩ := hi i (by rw [hmm]; split <;> omega)
    rw [hC] at hc
    obtain ⟨_, hcl, hat⟩ := World.cells?_some hc
    refine ⟨_, cs', _, hcl, ht', fun j hj => ?_⟩
    rw [← Go.Deep.add_add, hat j hj]
end

structure GOp where
  kind : Int
  r : Rule
def opC (o : GOp) : List Value := .int .i64 o.kind :: ruleC o.r
theorem opC_len (o : GOp) : (opC o).length = 6 := rfl
structure GOpOk (o : GOp) : Prop where
  k1 : -9223372036854775808 ≤ o.kind
  k2 : o.kind ≤ 9223372036854775807
  r : RuleOk o.r
instance : Inhabited GOp := ⟨⟨0, zeroR⟩⟩

section
variable {H : Type} {enc : TypeId × Value → H} {W : World} {base : Nat} {v : Value} {d : DataW H} {p : List MemPlace}
theorem open_gops (hv : Value.okWide Try.prog W .any base 22 v) (h : DataW.Trod enc Try.prog W 0 (fun _ => true) true 22 v d p) : ∃ xs, Row opC W v xs ∧ ∀ o ∈ xs, GOpOk o := by
  obtain ⟨a0, len, cap, rfl⟩ := okWide_slice Try.underlying22 hv
  obtain ⟨fuel, hf⟩ := h
  rcases open_slice_cells (C := 6) Try.underlying22 (by kernel_rfl) hf with hcs | ⟨a, len', cap', hcs, hl, hm, hi⟩
  · simp [Value.cells] at hcs
    obtain ⟨rfl, rfl, rfl⟩ := hcs
    exact ⟨[], ⟨none, 0, 0, rfl, rfl, by omega, by simp [maxLen], Rd.nil _ _⟩, by simp⟩
  · simp [Value.cells] at hcs
    obtain ⟨rfl, rfl, rfl⟩ := hcs
    refine row_of opC_len (by decide) hl hm fun i hil => ?_
    obtain ⟨m, cs, y, hcl, ht, hat⟩ := hi i hil
    obtain ⟨b0, b1, b2, b3, b4, b5, rfl⟩ := list6 hcl
    obtain ⟨ys, n', hn', hy, hlen, hyl, hg⟩ := DataW.trod_struct Try.underlying33 ht
    have g0 : DataW.trod enc Try.prog W 0 (fun _ => true) true n' 3 (([b0, b1, b2, b3, b4, b5].drop 0).take (Try.prog.cellsOf 3)) = ys[0]? := hg 0 _ rfl
    have g1 : DataW.trod enc Try.prog W 0 (fun _ => true) true n' 31 (([b0, b1, b2, b3, b4, b5].drop 1).take (Try.prog.cellsOf 31)) = ys[1]? := hg 1 _ rfl
    have k0 : Try.prog.cellsOf 3 = 1 := by kernel_rfl
    have k1 : Try.prog.cellsOf 31 = 5 := by kernel_rfl
    simp only [k0, k1, List.drop_zero, List.drop_succ_cons, List.take_succ_cons, List.take_zero] at g0 g1
    have e0 : ∃ y0, ys[0]? = some y0 := ⟨_, List.getElem?_eq_getElem (by rw [hyl]; decide)⟩
    have e1 : ∃ y1, ys[1]? = some y1 := ⟨_, List.getElem?_eq_getElem (by rw [hyl]; decide)⟩
    obtain ⟨y0, e0⟩ := e0
    obtain ⟨y1, e1⟩ := e1
    rw [e0] at g0
    rw [e1] at g1
    obtain ⟨z, rfl, z1, z2⟩ := part_i64 Try.underlying3 g0
    obtain ⟨zs, n2, hn2, hz, hlen2, hzl, hg2⟩ := DataW.trod_struct Try.underlying31 g1
    have ks : Try.prog.cellsOf 9 = 1 := by kernel_rfl
    have q0 : DataW.trod enc Try.prog W 0 (fun _ => true) true n2 9 (([b1, b2, b3, b4, b5].drop 0).take (Try.prog.cellsOf 9)) = zs[0]? := hg2 0 _ rfl
    have q1 : DataW.trod enc Try.prog W 0 (fun _ => true) true n2 9 (([b1, b2, b3, b4, b5].drop 1).take (Try.prog.cellsOf 9)) = zs[1]? := hg2 1 _ rfl
    have q2 : DataW.trod enc Try.prog W 0 (fun _ => true) true n2 3 (([b1, b2, b3, b4, b5].drop 2).take (Try.prog.cellsOf 3)) = zs[2]? := hg2 2 _ rfl
    have q3 : DataW.trod enc Try.prog W 0 (fun _ => true) true n2 3 (([b1, b2, b3, b4, b5].drop 3).take (Try.prog.cellsOf 3)) = zs[3]? := hg2 3 _ rfl
    have q4 : DataW.trod enc Try.prog W 0 (fun _ => true) true n2 3 (([b1, b2, b3, b4, b5].drop 4).take (Try.prog.cellsOf 3)) = zs[4]? := hg2 4 _ rfl
    simp only [k0, ks, List.drop_zero, List.drop_succ_cons, List.take_succ_cons, List.take_zero] at q0 q1 q2 q3 q4
    rw [List.getElem?_eq_getElem (by rw [hzl]; decide)] at q0 q1 q2 q3 q4
    obtain ⟨x0, rfl, c0⟩ := part_str Try.underlying9 q0
    obtain ⟨x1, rfl, c1⟩ := part_str Try.underlying9 q1
    obtain ⟨x2, rfl, c2⟩ := part_i64 Try.underlying3 q2
    obtain ⟨x3, rfl, c3⟩ := part_i64 Try.underlying3 q3
    obtain ⟨x4, rfl, c4⟩ := part_i64 Try.underlying3 q4
    refine ⟨⟨z, ⟨x0, x1, x2, x3, x4⟩⟩, ⟨z1, z2, ⟨c0, c1, c2.1, c2.2, c3.1, c3.2, c4.1, c4.2⟩⟩, fun j u hu => ?_⟩
    have hj : j < 6 := by
      have := (List.getElem?_eq_some_iff.1 hu).1
      simpa [opC, ruleC] using this
    rw [hat j hj]
    exact hu
end
end Go.Proofs.Ytdahdghphjlmfaa
