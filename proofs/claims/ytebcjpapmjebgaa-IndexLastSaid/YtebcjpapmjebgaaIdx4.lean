/- The statements of this layer, lifted from their walks. -/
import Derived.Test.YtebcjpapmjebgaaIdxZ
import Derived.Test.YtebcjpapmjebgaaLift
namespace Go.Proofs.Ytebcjpapmjebgaa
open Go.ChangeShapes Go.WideShapes Go.ChangeAt Go.RowKit
open Go.ChangeMaps (open_string)
set_option linter.unusedVariables false

theorem readable_of {P : Program} {t : TypeId} (h : (P.readableRec t && decide (t < P.types.size)) = true) : P.readableRec t = true ∧ t < P.types.size := by
  simpa using h
theorem Try.read_iops : (Try.prog.readableRec 22 && decide (22 < Try.prog.types.size)) = true := by kernel_rfl
theorem Try.read_iop : (Try.prog.readableRec 34 && decide (34 < Try.prog.types.size)) = true := by kernel_rfl

set_option maxRecDepth 100000 in
theorem indexLast_lifted (os : Os) (started : os.Started) (H : Type) (enc : TypeId × Value → H) :
    ReturnsInHanded {} Try.checked os 5 .any (Rows.indexLastSpec.pre6 enc Try.prog Try.f5 Rows.indexLastRow.domain false) (Rows.indexLastSpec.post enc Try.prog Try.f5 false true false false) := by
  refine returnsInHanded_of_change (C := Try.checked) Try.own started (by kernel_rfl) Try.func5
    (ChangeSpec.witness6 (enc := enc) (C := Try.checked) false ⟨#[], #[.slice none 0 0, .agg #[.int .i64 0, .string ByteArray.empty, .slice none 0 0]], []⟩ 8 (by kernel_rfl) (by kernel_rfl) (by kernel_rfl) (by kernel_rfl)) ?_
  intro W base args ds gs before hval0 hW _ _
  have hval : ∀ (j : Nat) t v, Try.f5.params[j]? = some t → args[j]? = some v → Value.okWide Try.prog W .any base t v := hval0
  have hW' : DataW.Whole enc Try.prog Try.f5.params.toList Rows.indexLastSpec.vars false W args.toList ds gs before := hW
  have hread : ∀ t ∈ Try.f5.params.toList, Try.prog.readableRec t = true ∧ t < Try.prog.types.size := by
    rw [Try.params5]
    intro t ht
    simp only [List.mem_cons, List.not_mem_nil, or_false] at ht
    rcases ht with rfl | rfl <;> first | exact readable_of Try.read_iops | exact readable_of Try.read_iop
  obtain ⟨p, q, hA0, hV, _, _, _⟩ := hW
  have hA : DataW.TrodAll enc Try.prog W 0 (fun _ => true) true Try.f5.params.toList args.toList ds p := hA0
  rw [Try.params5] at hA hval
  clear hA0 hval0
  obtain ⟨v0, v1, d0, d1, p0, p1, rfl, rfl, _, h0, h1⟩ := trodAll_two hA
  obtain ⟨rfl, _⟩ := trodVars_none hV
  obtain ⟨x0, a0, r0⟩ := open_iops (hval 0 22 v0 rfl rfl) h0
  obtain ⟨x1, rfl, r1⟩ := open_iop (hval 1 34 v1 rfl rfl) h1
  refine (indexLast_any v0 x0 x1 W a0 r0 r1).mono ?_
  rintro e W' ⟨rfl, hE⟩
  exact ⟨_, rfl, law_post Try.laidOut rfl rfl Try.underlying4 hread hW' rfl hE⟩
theorem indexLast_holds : Rows.IndexLastSaid :=
  OpenClaim.holds_of_wide 5 Try.f5 rfl rfl rfl rfl rfl rfl rfl ⟨rfl, rfl, rfl, rfl, rfl⟩ rfl rfl rfl rfl rfl (by kernel_rfl) Try.func5 (by kernel_rfl)
    (of_decide_eq_true (by kernel_rfl)) (by unfold Func.isWrapper; first | (rw [if_pos (by decide +kernel)]; kernel_rfl) | (rw [if_neg (by decide +kernel)]; exact ⟨rfl, rfl⟩))
    (fun os started H enc _ => indexLast_lifted os started H enc)

end Go.Proofs.Ytebcjpapmjebgaa
