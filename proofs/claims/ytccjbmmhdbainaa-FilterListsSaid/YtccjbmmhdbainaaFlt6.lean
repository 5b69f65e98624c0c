/- The statements of this layer, lifted from their walks. -/
import Derived.Test.YtccjbmmhdbainaaFltK
import Derived.Test.YtccjbmmhdbainaaFltO
import Derived.Test.YtccjbmmhdbainaaIdxO
import Derived.Test.YtccjbmmhdbainaaLift
import Derived.Test.YtccjbmmhdbainaaLift
namespace Go.Proofs.Ytccjbmmhdbainaa
open Go.ChangeShapes Go.WideShapes Go.ChangeAt Go.RowKit
open Go.ChangeMaps (open_string)
set_option linter.unusedVariables false
set_option maxRecDepth 100000

theorem readable_of {P : Program} {t : TypeId} (h : (P.readableRec t && decide (t < P.types.size)) = true) : P.readableRec t = true ∧ t < P.types.size := by
  simpa using h
theorem Try.read_iops : (Try.prog.readableRec 51 && decide (51 < Try.prog.types.size)) = true := by kernel_rfl
theorem Try.read_term : (Try.prog.readableRec 24 && decide (24 < Try.prog.types.size)) = true := by kernel_rfl

set_option maxRecDepth 100000 in
theorem filterLists_lifted (os : Os) (started : os.Started) (H : Type) (enc : TypeId × Value → H) :
    ReturnsInHanded {} Try.checked os 8 .any (Rows.filterListsSpec.pre6 enc Try.prog Try.f8 Rows.filterListsRow.domain false) (Rows.filterListsSpec.post enc Try.prog Try.f8 false true false false) := by
  refine returnsInHanded_of_change (C := Try.checked) Try.own started (by kernel_rfl) Try.func8
    (ChangeSpec.witness6 (enc := enc) (C := Try.checked) false ⟨#[], #[.slice none 0 0, .agg #[.string ByteArray.empty, .bool false, .slice none 0 0]], []⟩ 8 (by kernel_rfl) (by kernel_rfl) (by kernel_rfl) (by kernel_rfl)) ?_
  intro W base args ds gs before hval0 hW _ _
  have hval : ∀ (j : Nat) t v, Try.f8.params[j]? = some t → args[j]? = some v → Value.okWide Try.prog W .any base t v := hval0
  have hW' : DataW.Whole enc Try.prog Try.f8.params.toList Rows.filterListsSpec.vars false W args.toList ds gs before := hW
  have hread : ∀ t ∈ Try.f8.params.toList, Try.prog.readableRec t = true ∧ t < Try.prog.types.size := by
    rw [Try.params8]
    intro t ht
    simp only [List.mem_cons, List.not_mem_nil, or_false] at ht
    rcases ht with rfl | rfl <;> first | exact readable_of Try.read_iops | exact readable_of Try.read_term
  obtain ⟨p, q, hA0, hV, _, _, _⟩ := hW
  have hA : DataW.TrodAll enc Try.prog W 0 (fun _ => true) true Try.f8.params.toList args.toList ds p := hA0
  rw [Try.params8] at hA hval
  clear hA0 hval0
  obtain ⟨v0, v1, d0, d1, p0, p1, rfl, rfl, _, h0, h1⟩ := trodAll_two hA
  obtain ⟨rfl, _⟩ := trodVars_none hV
  obtain ⟨x0, a0, r0⟩ := open_iops (hval 0 51 v0 rfl rfl) h0
  obtain ⟨x1, y1, rfl, a1, r1⟩ := open_tm (hval 1 24 v1 rfl rfl) h1
  refine (filterLists_any v0 y1 x0 x1 W a0 r0 a1 r1).mono ?_
  rintro e W' ⟨rfl, hE⟩
  exact ⟨_, rfl, law_post Try.laidOut rfl rfl Try.underlying4 hread hW' rfl hE⟩
theorem filterLists_holds : Rows.FilterListsSaid :=
  OpenClaim.holds_of_wide 8 Try.f8 rfl rfl rfl rfl rfl rfl rfl ⟨rfl, rfl, rfl, rfl, rfl⟩ rfl rfl rfl rfl rfl (by kernel_rfl) Try.func8 (by kernel_rfl)
    (of_decide_eq_true (by kernel_rfl)) (by unfold Func.isWrapper; first | (rw [if_pos (by decide +kernel)]; kernel_rfl) | (rw [if_neg (by decide +kernel)]; exact ⟨rfl, rfl⟩))
    (fun os started H enc _ => filterLists_lifted os started H enc)

end Go.Proofs.Ytccjbmmhdbainaa
