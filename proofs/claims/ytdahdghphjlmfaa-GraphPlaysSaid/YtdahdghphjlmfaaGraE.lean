/- The graph laws' arguments, opened; the nil law. -/
import Derived.Test.YtdahdghphjlmfaaGraJ
import Derived.Test.YtdahdghphjlmfaaGraN
import Derived.Test.YtdahdghphjlmfaaOpn
namespace Go.Proofs.Ytdahdghphjlmfaa
open Go.ChangeShapes Go.WideShapes Go.ChangeAt Go.RowKit Go.Deep Gra
set_option linter.unusedVariables false

section
variable {H : Type} {enc : TypeId × Value → H} {W : World} {base : Nat} {v : Value} {d : DataW H} {p : List MemPlace}
theorem open_rule (hv : Value.okWide Try.prog W .any base 31 v) (h : DataW.Trod enc Try.prog W 0 (fun _ => true) true 31 v d p) : ∃ r : Rule, v = ruleV r ∧ RuleOk r := by
  obtain ⟨cs, rfl, hl, m, hj⟩ := open_struct Try.underlying31 (by kernel_rfl) (by kernel_rfl) hv h
  obtain ⟨a0, a1, a2, a3, a4, rfl⟩ := list5 hl
  obtain ⟨v0, y0, c0, t0⟩ := hj 0 _ rfl
  obtain ⟨v1, y1, c1, t1⟩ := hj 1 _ rfl
  obtain ⟨v2, y2, c2, t2⟩ := hj 2 _ rfl
  obtain ⟨v3, y3, c3, t3⟩ := hj 3 _ rfl
  obtain ⟨v4, y4, c4, t4⟩ := hj 4 _ rfl
  injection c0 with c0; injection c1 with c1; injection c2 with c2; injection c3 with c3; injection c4 with c4
  subst c0 c1 c2 c3 c4
  obtain ⟨x0, rfl, b0⟩ := part_str Try.underlying9 t0
  obtain ⟨x1, rfl, b1⟩ := part_str Try.underlying9 t1
  obtain ⟨x2, rfl, b2⟩ := part_i64 Try.underlying3 t2
  obtain ⟨x3, rfl, b3⟩ := part_i64 Try.underlying3 t3
  obtain ⟨x4, rfl, b4⟩ := part_i64 Try.underlying3 t4
  exact ⟨⟨x0, x1, x2, x3, x4⟩, rfl, ⟨b0, b1, b2.1, b2.2, b3.1, b3.2, b4.1, b4.2⟩⟩
end
theorem graphNil_any (r : Rule) (w : World) (hr : RuleOk r) :
    Calls Try.prog 6 #[ruleV r] w fun e w' => e = .returned (.bool true) ∧ Ext w w' := graphNil_walk known_any r w hr
end Go.Proofs.Ytdahdghphjlmfaa
