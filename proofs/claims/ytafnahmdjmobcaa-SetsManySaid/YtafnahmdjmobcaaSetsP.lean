/- The six statements of layer 8, proved. -/
import Derived.Test.YtafnahmdjmobcaaSetsV
import Derived.Test.YtafnahmdjmobcaaSetsU
import Derived.Test.YtafnahmdjmobcaaLift
namespace Go.Proofs.Ytafnahmdjmobcaa
open Go.ChangeShapes Go.WideShapes Go.ChangeAt Go.RowKit Sets
open Go.ChangeMaps (open_string)

theorem Try.readStr : (Try.prog.readableRec 9 && decide (9 < Try.prog.types.size)) = true := by kernel_rfl
theorem Try.readStrs : (Try.prog.readableRec 22 && decide (22 < Try.prog.types.size)) = true := by kernel_rfl
theorem read_ok {P : Program} {t : TypeId} (h : (P.readableRec t && decide (t < P.types.size)) = true) : P.readableRec t = true ∧ t < P.types.size := by
  simpa using h
theorem Try.cellsStr : Try.prog.cellsOf 9 = 1 := by kernel_rfl

/-- An argument that is a slice of texts, opened. -/
theorem open_txt {H : Type} {enc : TypeId × Value → H} {W : World} {base : Nat} {v : Value} {d : DataW H} {p : List MemPlace}
    (hv : Value.okWide Try.prog W .any base 22 v) (h : DataW.Trod enc Try.prog W 0 (fun _ => true) true 22 v d p) : ∃ xs, Txt W v xs ∧ Fit xs := by
  obtain ⟨a0, len, cap, rfl⟩ := okWide_slice Try.underlying22 hv
  obtain ⟨fuel, hf⟩ := h
  rcases open_strings Try.underlying22 Try.underlying9 Try.cellsStr hf with ⟨hcs, _⟩ | ⟨a, len', cap', ss, hcs, _, hl, hm, hz, _, hcell, hws⟩
  · simp [Value.cells] at hcs
    obtain ⟨rfl, rfl, rfl⟩ := hcs
    exact ⟨[], ⟨none, 0, 0, rfl, rfl, by omega, by omega, Rd.nil _ _⟩, fun s hs => by simp at hs⟩
  · simp [Value.cells] at hcs
    obtain ⟨rfl, rfl, rfl⟩ := hcs
    simp only [if_true] at hz
    refine ⟨ss.take len, ⟨some a, len, cap, rfl, by rw [List.length_take]; omega, hl, by simpa [maxLen] using hm, fun _ => ⟨a, rfl, fun j u hu => ?_⟩⟩, fun s hs => by
      have := hws s (List.mem_of_mem_take hs)
      simpa [maxLen] using this⟩
    rw [List.getElem?_map, List.getElem?_take] at hu
    split at hu
    · rename_i hj
      rw [hcell j (by omega)]
      cases hss : ss[j]? with
      | none => simp [hss] at hu
      | some s =>
        simp only [hss, Option.map_some, Option.some.injEq] at hu
        rw [← hu, List.getD_eq_getElem?_getD, hss]
        rfl
    · simp at hu

theorem open_str {H : Type} {enc : TypeId × Value → H} {W : World} {base : Nat} {v : Value} {d : DataW H} {p : List MemPlace}
    (hv : Value.okWide Try.prog W .any base 9 v) (h : DataW.Trod enc Try.prog W 0 (fun _ => true) true 9 v d p) : ∃ s, v = .string s ∧ s.size ≤ 9223372036854775807 := by
  obtain ⟨s, rfl, _, _, hs⟩ := open_string Try.underlying9 hv h
  exact ⟨s, rfl, by simpa [maxLen] using hs⟩


set_option maxRecDepth 100000 in
theorem setsTell_lifted (os : Os) (started : os.Started) (H : Type) (enc : TypeId × Value → H) :
    ReturnsInHanded {} Try.checked os 3 .any (Rows.setsTellSpec.pre6 enc Try.prog Try.f3 Rows.setsTellRow.domain false) (Rows.setsTellSpec.post enc Try.prog Try.f3 false true false false) := by
  refine returnsInHanded_of_change (C := Try.checked) Try.own started (by kernel_rfl) Try.func3
    (ChangeSpec.witness6 (enc := enc) (C := Try.checked) false ⟨#[], #[.slice none 0 0, .slice none 0 0, .string ByteArray.empty], []⟩ 8 (by kernel_rfl) (by kernel_rfl) (by kernel_rfl) (by kernel_rfl)) ?_
  intro W base args ds gs before hval0 hW _ _
  have hval : ∀ (j : Nat) t v, Try.f3.params[j]? = some t → args[j]? = some v → Value.okWide Try.prog W .any base t v := hval0
  have hW' : DataW.Whole enc Try.prog Try.f3.params.toList Rows.setsTellSpec.vars false W args.toList ds gs before := hW
  have hread : ∀ t ∈ Try.f3.params.toList, Try.prog.readableRec t = true ∧ t < Try.prog.types.size := by
    rw [Try.params3]
    intro t ht
    simp only [List.mem_cons, List.not_mem_nil, or_false] at ht
    rcases ht with rfl | rfl | rfl <;> first | exact read_ok Try.readStrs | exact read_ok Try.readStr
  obtain ⟨p, q, hA0, hV, _, _, _⟩ := hW
  have hA : DataW.TrodAll enc Try.prog W 0 (fun _ => true) true Try.f3.params.toList args.toList ds p := hA0
  rw [Try.params3] at hA hval
  clear hA0 hval0
  obtain ⟨v0, v1, v2, d0, d1, d2, p0, p1, p2, rfl, rfl, _, h0, h1, h2⟩ := trodAll_three hA
  obtain ⟨rfl, _⟩ := trodVars_none hV
  obtain ⟨x0, a0, f0⟩ := open_txt (hval 0 22 v0 rfl rfl) h0
  obtain ⟨x1, a1, f1⟩ := open_txt (hval 1 22 v1 rfl rfl) h1
  obtain ⟨s, rfl, hs⟩ := open_str (hval 2 9 v2 rfl rfl) h2
  refine (setsTell_any v0 v1 x0 x1 s W a0 a1 f0 f1 hs).mono ?_
  rintro e W' ⟨rfl, hE⟩
  exact ⟨_, rfl, law_post Try.laidOut rfl rfl Try.underlying4 hread hW' rfl hE⟩
theorem setsTell_holds : Rows.SetsTellSaid :=
  OpenClaim.holds_of_wide 3 Try.f3 rfl rfl rfl rfl rfl rfl rfl ⟨rfl, rfl, rfl, rfl, rfl⟩ rfl rfl rfl rfl rfl (by kernel_rfl) Try.func3 (by kernel_rfl)
    (of_decide_eq_true (by kernel_rfl)) (by unfold Func.isWrapper; first | (rw [if_pos (by decide +kernel)]; kernel_rfl) | (rw [if_neg (by decide +kernel)]; exact ⟨rfl, rfl⟩))
    (fun os started H enc _ => setsTell_lifted os started H enc)

set_option maxRecDepth 100000 in
theorem setsHave_lifted (os : Os) (started : os.Started) (H : Type) (enc : TypeId × Value → H) :
    ReturnsInHanded {} Try.checked os 4 .any (Rows.setsHaveSpec.pre6 enc Try.prog Try.f4 Rows.setsHaveRow.domain false) (Rows.setsHaveSpec.post enc Try.prog Try.f4 false true false false) := by
  refine returnsInHanded_of_change (C := Try.checked) Try.own started (by kernel_rfl) Try.func4
    (ChangeSpec.witness6 (enc := enc) (C := Try.checked) false ⟨#[], #[.slice none 0 0, .slice none 0 0, .string ByteArray.empty], []⟩ 8 (by kernel_rfl) (by kernel_rfl) (by kernel_rfl) (by kernel_rfl)) ?_
  intro W base args ds gs before hval0 hW _ _
  have hval : ∀ (j : Nat) t v, Try.f4.params[j]? = some t → args[j]? = some v → Value.okWide Try.prog W .any base t v := hval0
  have hW' : DataW.Whole enc Try.prog Try.f4.params.toList Rows.setsHaveSpec.vars false W args.toList ds gs before := hW
  have hread : ∀ t ∈ Try.f4.params.toList, Try.prog.readableRec t = true ∧ t < Try.prog.types.size := by
    rw [Try.params4]
    intro t ht
    simp only [List.mem_cons, List.not_mem_nil, or_false] at ht
    rcases ht with rfl | rfl | rfl <;> first | exact read_ok Try.readStrs | exact read_ok Try.readStr
  obtain ⟨p, q, hA0, hV, _, _, _⟩ := hW
  have hA : DataW.TrodAll enc Try.prog W 0 (fun _ => true) true Try.f4.params.toList args.toList ds p := hA0
  rw [Try.params4] at hA hval
  clear hA0 hval0
  obtain ⟨v0, v1, v2, d0, d1, d2, p0, p1, p2, rfl, rfl, _, h0, h1, h2⟩ := trodAll_three hA
  obtain ⟨rfl, _⟩ := trodVars_none hV
  obtain ⟨x0, a0, f0⟩ := open_txt (hval 0 22 v0 rfl rfl) h0
  obtain ⟨x1, a1, f1⟩ := open_txt (hval 1 22 v1 rfl rfl) h1
  obtain ⟨s, rfl, hs⟩ := open_str (hval 2 9 v2 rfl rfl) h2
  refine (setsHave_any v0 v1 x0 x1 s W a0 a1 f0 f1 hs).mono ?_
  rintro e W' ⟨rfl, hE⟩
  exact ⟨_, rfl, law_post Try.laidOut rfl rfl Try.underlying4 hread hW' rfl hE⟩
theorem setsHave_holds : Rows.SetsHaveSaid :=
  OpenClaim.holds_of_wide 4 Try.f4 rfl rfl rfl rfl rfl rfl rfl ⟨rfl, rfl, rfl, rfl, rfl⟩ rfl rfl rfl rfl rfl (by kernel_rfl) Try.func4 (by kernel_rfl)
    (of_decide_eq_true (by kernel_rfl)) (by unfold Func.isWrapper; first | (rw [if_pos (by decide +kernel)]; kernel_rfl) | (rw [if_neg (by decide +kernel)]; exact ⟨rfl, rfl⟩))
    (fun os started H enc _ => setsHave_lifted os started H enc)

set_option maxRecDepth 100000 in
theorem setsOrders_lifted (os : Os) (started : os.Started) (H : Type) (enc : TypeId × Value → H) :
    ReturnsInHanded {} Try.checked os 5 .any (Rows.setsOrdersSpec.pre6 enc Try.prog Try.f5 Rows.setsOrdersRow.domain false) (Rows.setsOrdersSpec.post enc Try.prog Try.f5 false true false false) := by
  refine returnsInHanded_of_change (C := Try.checked) Try.own started (by kernel_rfl) Try.func5
    (ChangeSpec.witness6 (enc := enc) (C := Try.checked) false ⟨#[], #[.slice none 0 0, .slice none 0 0, .slice none 0 0], []⟩ 8 (by kernel_rfl) (by kernel_rfl) (by kernel_rfl) (by kernel_rfl)) ?_
  intro W base args ds gs before hval0 hW _ _
  have hval : ∀ (j : Nat) t v, Try.f5.params[j]? = some t → args[j]? = some v → Value.okWide Try.prog W .any base t v := hval0
  have hW' : DataW.Whole enc Try.prog Try.f5.params.toList Rows.setsOrdersSpec.vars false W args.toList ds gs before := hW
  have hread : ∀ t ∈ Try.f5.params.toList, Try.prog.readableRec t = true ∧ t < Try.prog.types.size := by
    rw [Try.params5]
    intro t ht
    simp only [List.mem_cons, List.not_mem_nil, or_false] at ht
    rcases ht with rfl | rfl | rfl <;> first | exact read_ok Try.readStrs | exact read_ok Try.readStr
  obtain ⟨p, q, hA0, hV, _, _, _⟩ := hW
  have hA : DataW.TrodAll enc Try.prog W 0 (fun _ => true) true Try.f5.params.toList args.toList ds p := hA0
  rw [Try.params5] at hA hval
  clear hA0 hval0
  obtain ⟨v0, v1, v2, d0, d1, d2, p0, p1, p2, rfl, rfl, _, h0, h1, h2⟩ := trodAll_three hA
  obtain ⟨rfl, _⟩ := trodVars_none hV
  obtain ⟨x0, a0, f0⟩ := open_txt (hval 0 22 v0 rfl rfl) h0
  obtain ⟨x1, a1, f1⟩ := open_txt (hval 1 22 v1 rfl rfl) h1
  obtain ⟨x2, a2, f2⟩ := open_txt (hval 2 22 v2 rfl rfl) h2
  refine (setsOrders_any v0 v1 v2 x0 x1 x2 W a0 a1 a2 f0 f1 f2).mono ?_
  rintro e W' ⟨rfl, hE⟩
  exact ⟨_, rfl, law_post Try.laidOut rfl rfl Try.underlying4 hread hW' rfl hE⟩
theorem setsOrders_holds : Rows.SetsOrdersSaid :=
  OpenClaim.holds_of_wide 5 Try.f5 rfl rfl rfl rfl rfl rfl rfl ⟨rfl, rfl, rfl, rfl, rfl⟩ rfl rfl rfl rfl rfl (by kernel_rfl) Try.func5 (by kernel_rfl)
    (of_decide_eq_true (by kernel_rfl)) (by unfold Func.isWrapper; first | (rw [if_pos (by decide +kernel)]; kernel_rfl) | (rw [if_neg (by decide +kernel)]; exact ⟨rfl, rfl⟩))
    (fun os started H enc _ => setsOrders_lifted os started H enc)

set_option maxRecDepth 100000 in
theorem setsAgain_lifted (os : Os) (started : os.Started) (H : Type) (enc : TypeId × Value → H) :
    ReturnsInHanded {} Try.checked os 6 .any (Rows.setsAgainSpec.pre6 enc Try.prog Try.f6 Rows.setsAgainRow.domain false) (Rows.setsAgainSpec.post enc Try.prog Try.f6 false true false false) := by
  refine returnsInHanded_of_change (C := Try.checked) Try.own started (by kernel_rfl) Try.func6
    (ChangeSpec.witness6 (enc := enc) (C := Try.checked) false ⟨#[], #[.slice none 0 0, .string ByteArray.empty], []⟩ 8 (by kernel_rfl) (by kernel_rfl) (by kernel_rfl) (by kernel_rfl)) ?_
  intro W base args ds gs before hval0 hW _ _
  have hval : ∀ (j : Nat) t v, Try.f6.params[j]? = some t → args[j]? = some v → Value.okWide Try.prog W .any base t v := hval0
  have hW' : DataW.Whole enc Try.prog Try.f6.params.toList Rows.setsAgainSpec.vars false W args.toList ds gs before := hW
  have hread : ∀ t ∈ Try.f6.params.toList, Try.prog.readableRec t = true ∧ t < Try.prog.types.size := by
    rw [Try.params6]
    intro t ht
    simp only [List.mem_cons, List.not_mem_nil, or_false] at ht
    rcases ht with rfl | rfl <;> first | exact read_ok Try.readStrs | exact read_ok Try.readStr
  obtain ⟨p, q, hA0, hV, _, _, _⟩ := hW
  have hA : DataW.TrodAll enc Try.prog W 0 (fun _ => true) true Try.f6.params.toList args.toList ds p := hA0
  rw [Try.params6] at hA hval
  clear hA0 hval0
  obtain ⟨v0, v1, d0, d1, p0, p1, rfl, rfl, _, h0, h1⟩ := trodAll_two hA
  obtain ⟨rfl, _⟩ := trodVars_none hV
  obtain ⟨x0, a0, f0⟩ := open_txt (hval 0 22 v0 rfl rfl) h0
  obtain ⟨s, rfl, hs⟩ := open_str (hval 1 9 v1 rfl rfl) h1
  refine (setsAgain_any v0 x0 s W a0 f0 hs).mono ?_
  rintro e W' ⟨rfl, hE⟩
  exact ⟨_, rfl, law_post Try.laidOut rfl rfl Try.underlying4 hread hW' rfl hE⟩
theorem setsAgain_holds : Rows.SetsAgainSaid :=
  OpenClaim.holds_of_wide 6 Try.f6 rfl rfl rfl rfl rfl rfl rfl ⟨rfl, rfl, rfl, rfl, rfl⟩ rfl rfl rfl rfl rfl (by kernel_rfl) Try.func6 (by kernel_rfl)
    (of_decide_eq_true (by kernel_rfl)) (by unfold Func.isWrapper; first | (rw [if_pos (by decide +kernel)]; kernel_rfl) | (rw [if_neg (by decide +kernel)]; exact ⟨rfl, rfl⟩))
    (fun os started H enc _ => setsAgain_lifted os started H enc)

set_option maxRecDepth 100000 in
theorem setsSizes_lifted (os : Os) (started : os.Started) (H : Type) (enc : TypeId × Value → H) :
    ReturnsInHanded {} Try.checked os 7 .any (Rows.setsSizesSpec.pre6 enc Try.prog Try.f7 Rows.setsSizesRow.domain false) (Rows.setsSizesSpec.post enc Try.prog Try.f7 false true false false) := by
  refine returnsInHanded_of_change (C := Try.checked) Try.own started (by kernel_rfl) Try.func7
    (ChangeSpec.witness6 (enc := enc) (C := Try.checked) false ⟨#[], #[.slice none 0 0, .slice none 0 0], []⟩ 8 (by kernel_rfl) (by kernel_rfl) (by kernel_rfl) (by kernel_rfl)) ?_
  intro W base args ds gs before hval0 hW _ _
  have hval : ∀ (j : Nat) t v, Try.f7.params[j]? = some t → args[j]? = some v → Value.okWide Try.prog W .any base t v := hval0
  have hW' : DataW.Whole enc Try.prog Try.f7.params.toList Rows.setsSizesSpec.vars false W args.toList ds gs before := hW
  have hread : ∀ t ∈ Try.f7.params.toList, Try.prog.readableRec t = true ∧ t < Try.prog.types.size := by
    rw [Try.params7]
    intro t ht
    simp only [List.mem_cons, List.not_mem_nil, or_false] at ht
    rcases ht with rfl | rfl <;> first | exact read_ok Try.readStrs | exact read_ok Try.readStr
  obtain ⟨p, q, hA0, hV, _, _, _⟩ := hW
  have hA : DataW.TrodAll enc Try.prog W 0 (fun _ => true) true Try.f7.params.toList args.toList ds p := hA0
  rw [Try.params7] at hA hval
  clear hA0 hval0
  obtain ⟨v0, v1, d0, d1, p0, p1, rfl, rfl, _, h0, h1⟩ := trodAll_two hA
  obtain ⟨rfl, _⟩ := trodVars_none hV
  obtain ⟨x0, a0, f0⟩ := open_txt (hval 0 22 v0 rfl rfl) h0
  obtain ⟨x1, a1, f1⟩ := open_txt (hval 1 22 v1 rfl rfl) h1
  refine (setsSizes_any v0 v1 x0 x1 W a0 a1 f0 f1).mono ?_
  rintro e W' ⟨rfl, hE⟩
  exact ⟨_, rfl, law_post Try.laidOut rfl rfl Try.underlying4 hread hW' rfl hE⟩
theorem setsSizes_holds : Rows.SetsSizesSaid :=
  OpenClaim.holds_of_wide 7 Try.f7 rfl rfl rfl rfl rfl rfl rfl ⟨rfl, rfl, rfl, rfl, rfl⟩ rfl rfl rfl rfl rfl (by kernel_rfl) Try.func7 (by kernel_rfl)
    (of_decide_eq_true (by kernel_rfl)) (by unfold Func.isWrapper; first | (rw [if_pos (by decide +kernel)]; kernel_rfl) | (rw [if_neg (by decide +kernel)]; exact ⟨rfl, rfl⟩))
    (fun os started H enc _ => setsSizes_lifted os started H enc)

set_option maxRecDepth 100000 in
theorem setsMany_lifted (os : Os) (started : os.Started) (H : Type) (enc : TypeId × Value → H) :
    ReturnsInHanded {} Try.checked os 8 .any (Rows.setsManySpec.pre6 enc Try.prog Try.f8 Rows.setsManyRow.domain false) (Rows.setsManySpec.post enc Try.prog Try.f8 false true false false) := by
  refine returnsInHanded_of_change (C := Try.checked) Try.own started (by kernel_rfl) Try.func8
    (ChangeSpec.witness6 (enc := enc) (C := Try.checked) false ⟨#[], #[.slice none 0 0], []⟩ 8 (by kernel_rfl) (by kernel_rfl) (by kernel_rfl) (by kernel_rfl)) ?_
  intro W base args ds gs before hval0 hW _ _
  have hval : ∀ (j : Nat) t v, Try.f8.params[j]? = some t → args[j]? = some v → Value.okWide Try.prog W .any base t v := hval0
  have hW' : DataW.Whole enc Try.prog Try.f8.params.toList Rows.setsManySpec.vars false W args.toList ds gs before := hW
  have hread : ∀ t ∈ Try.f8.params.toList, Try.prog.readableRec t = true ∧ t < Try.prog.types.size := by
    rw [Try.params8]
    intro t ht
    simp only [List.mem_cons, List.not_mem_nil, or_false] at ht
    rcases ht with rfl <;> first | exact read_ok Try.readStrs | exact read_ok Try.readStr
  obtain ⟨p, q, hA0, hV, _, _, _⟩ := hW
  have hA : DataW.TrodAll enc Try.prog W 0 (fun _ => true) true Try.f8.params.toList args.toList ds p := hA0
  rw [Try.params8] at hA hval
  clear hA0 hval0
  obtain ⟨v0, d0, rfl, rfl, h0⟩ := trodAll_one hA
  obtain ⟨rfl, _⟩ := trodVars_none hV
  obtain ⟨x0, a0, f0⟩ := open_txt (hval 0 22 v0 rfl rfl) h0
  refine (setsMany_any v0 x0 W a0 f0).mono ?_
  rintro e W' ⟨rfl, hE⟩
  exact ⟨_, rfl, law_post Try.laidOut rfl rfl Try.underlying4 hread hW' rfl hE⟩
theorem setsMany_holds : Rows.SetsManySaid :=
  OpenClaim.holds_of_wide 8 Try.f8 rfl rfl rfl rfl rfl rfl rfl ⟨rfl, rfl, rfl, rfl, rfl⟩ rfl rfl rfl rfl rfl (by kernel_rfl) Try.func8 (by kernel_rfl)
    (of_decide_eq_true (by kernel_rfl)) (by unfold Func.isWrapper; first | (rw [if_pos (by decide +kernel)]; kernel_rfl) | (rw [if_neg (by decide +kernel)]; exact ⟨rfl, rfl⟩))
    (fun os started H enc _ => setsMany_lifted os started H enc)

end Go.Proofs.Ytafnahmdjmobcaa
