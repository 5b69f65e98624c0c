/- The statements of this layer, lifted from their walks. -/
import Derived.Test.YtdbboooblbdihaaRspZ
import Derived.Test.YtdbboooblbdihaaRsqG
import Derived.Test.YtdbboooblbdihaaLift
namespace Go.Proofs.Ytdbboooblbdihaa
open Go.ChangeShapes Go.WideShapes Go.ChangeAt Go.RowKit
open Go.ChangeMaps (open_string)
set_option linter.unusedVariables false
set_option maxRecDepth 100000

theorem readable_of {P : Program} {t : TypeId} (h : (P.readableRec t && decide (t < P.types.size)) = true) : P.readableRec t = true ∧ t < P.types.size := by
  simpa using h
theorem Try.read_str : (Try.prog.readableRec 9 && decide (9 < Try.prog.types.size)) = true := by kernel_rfl

theorem open_str {H : Type} {enc : TypeId × Value → H} {W : World} {base : Nat} {v : Value} {d : DataW H} {p : List MemPlace}
    (hv : Value.okWide Try.prog W .any base 9 v) (h : DataW.Trod enc Try.prog W 0 (fun _ => true) true 9 v d p) : ∃ s, v = .string s ∧ s.size ≤ 9223372036854775807 := by
  obtain ⟨s, rfl, _, _, hs⟩ := open_string Try.underlying9 hv h
  exact ⟨s, rfl, by simpa [maxLen] using hs⟩

set_option maxRecDepth 100000 in
theorem respDead_lifted (os : Os) (started : os.Started) (H : Type) (enc : TypeId × Value → H) :
    ReturnsInHanded {} Try.checked os 7 .any (Rows.respDeadSpec.pre6 enc Try.prog Try.f7 Rows.respDeadRow.domain false) (Rows.respDeadSpec.post enc Try.prog Try.f7 false true false false) := by
  refine returnsInHanded_of_change (C := Try.checked) Try.own started (by kernel_rfl) Try.func7
    (ChangeSpec.witness6 (enc := enc) (C := Try.checked) false ⟨#[], #[.string ByteArray.empty, .string ByteArray.empty], []⟩ 8 (by kernel_rfl) (by kernel_rfl) (by kernel_rfl) (by kernel_rfl)) ?_
  intro W base args ds gs before hval0 hW _ _
  have hval : ∀ (j : Nat) t v, Try.f7.params[j]? = some t → args[j]? = some v → Value.okWide Try.prog W .any base t v := hval0
  have hW' : DataW.Whole enc Try.prog Try.f7.params.toList Rows.respDeadSpec.vars false W args.toList ds gs before := hW
  have hread : ∀ t ∈ Try.f7.params.toList, Try.prog.readableRec t = true ∧ t < Try.prog.types.size := by
    rw [Try.params7]
    intro t ht
    simp only [List.mem_cons, List.not_mem_nil, or_false] at ht
    rcases ht with rfl | rfl <;> first | exact readable_of Try.read_str
  obtain ⟨p, q, hA0, hV, _, _, _⟩ := hW
  have hA : DataW.TrodAll enc Try.prog W 0 (fun _ => true) true Try.f7.params.toList args.toList ds p := hA0
  rw [Try.params7] at hA hval
  clear hA0 hval0
  obtain ⟨v0, v1, d0, d1, p0, p1, rfl, rfl, _, h0, h1⟩ := trodAll_two hA
  obtain ⟨rfl, _⟩ := trodVars_none hV
  obtain ⟨x0, rfl, r0⟩ := open_str (hval 0 9 v0 rfl rfl) h0
  obtain ⟨x1, rfl, r1⟩ := open_str (hval 1 9 v1 rfl rfl) h1
  refine (respDead_any x0 x1 W r0 r1).mono ?_
  rintro e W' ⟨rfl, hE⟩
  exact ⟨_, rfl, law_post Try.laidOut rfl rfl Try.underlying4 hread hW' rfl hE⟩
theorem respDead_holds : Rows.RespDeadSaid :=
  OpenClaim.holds_of_wide 7 Try.f7 rfl rfl rfl rfl rfl rfl rfl ⟨rfl, rfl, rfl, rfl, rfl⟩ rfl rfl rfl rfl rfl (by kernel_rfl) Try.func7 (by kernel_rfl)
    (of_decide_eq_true (by kernel_rfl)) (by unfold Func.isWrapper; first | (rw [if_pos (by decide +kernel)]; kernel_rfl) | (rw [if_neg (by decide +kernel)]; exact ⟨rfl, rfl⟩))
    (fun os started H enc _ => respDead_lifted os started H enc)

end Go.Proofs.Ytdbboooblbdihaa
