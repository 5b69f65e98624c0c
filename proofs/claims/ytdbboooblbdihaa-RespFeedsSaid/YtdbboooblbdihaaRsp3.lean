/- The statements of this layer, lifted from their walks. -/
import Derived.Test.YtdbboooblbdihaaRspZ
import Derived.Test.YtdbboooblbdihaaRsqD
import Derived.Test.YtdbboooblbdihaaRsqE
import Derived.Test.YtdbboooblbdihaaLift
namespace Go.Proofs.Ytdbboooblbdihaa
open Go.ChangeShapes Go.WideShapes Go.ChangeAt Go.RowKit
open Go.ChangeMaps (open_string)
set_option linter.unusedVariables false
set_option maxRecDepth 100000

theorem readable_of {P : Program} {t : TypeId} (h : (P.readableRec t && decide (t < P.types.size)) = true) : P.readableRec t = true ∧ t < P.types.size := by
  simpa using h
theorem Try.read_items : (Try.prog.readableRec 45 && decide (45 < Try.prog.types.size)) = true := by kernel_rfl
theorem Try.read_str : (Try.prog.readableRec 9 && decide (9 < Try.prog.types.size)) = true := by kernel_rfl
theorem Try.read_u16 : (Try.prog.readableRec 37 && decide (37 < Try.prog.types.size)) = true := by kernel_rfl
theorem Try.read_bytes : (Try.prog.readableRec 22 && decide (22 < Try.prog.types.size)) = true := by kernel_rfl
theorem Try.read_u8 : (Try.prog.readableRec 5 && decide (5 < Try.prog.types.size)) = true := by kernel_rfl

theorem open_str {H : Type} {enc : TypeId × Value → H} {W : World} {base : Nat} {v : Value} {d : DataW H} {p : List MemPlace}
    (hv : Value.okWide Try.prog W .any base 9 v) (h : DataW.Trod enc Try.prog W 0 (fun _ => true) true 9 v d p) : ∃ s, v = .string s ∧ s.size ≤ 9223372036854775807 := by
  obtain ⟨s, rfl, _, _, hs⟩ := open_string Try.underlying9 hv h
  exact ⟨s, rfl, by simpa [maxLen] using hs⟩

theorem open_u8 {H : Type} {enc : TypeId × Value → H} {W : World} {base : Nat} {v : Value} {d : DataW H} {p : List MemPlace}
    (hv : Value.okWide Try.prog W .any base 5 v) (h : DataW.Trod enc Try.prog W 0 (fun _ => true) true 5 v d p) : ∃ x, v = .int .u8 x ∧ (0 ≤ x ∧ x ≤ 255) := by
  obtain ⟨x, rfl, _, _, hx⟩ := open_int Try.underlying5 hv h
  exact ⟨x, rfl, by simpa [Lit.wf, IntKind.min, IntKind.max, IntKind.signed, IntKind.bits] using hx⟩

theorem open_u16 {H : Type} {enc : TypeId × Value → H} {W : World} {base : Nat} {v : Value} {d : DataW H} {p : List MemPlace}
    (hv : Value.okWide Try.prog W .any base 37 v) (h : DataW.Trod enc Try.prog W 0 (fun _ => true) true 37 v d p) : ∃ x : Nat, v = .int .u16 (x : Int) ∧ x < 65536 := by
  obtain ⟨x, rfl, _, _, hx⟩ := open_int Try.underlying37 hv h
  have hr : 0 ≤ x ∧ x ≤ 65535 := by simpa [Lit.wf, IntKind.min, IntKind.max, IntKind.signed, IntKind.bits] using hx
  exact ⟨x.toNat, by rw [Int.toNat_of_nonneg hr.1], by omega⟩

theorem Try.cells_u8 : Try.prog.cellsOf 5 = 1 := by kernel_rfl
theorem open_byt {H : Type} {enc : TypeId × Value → H} {W : World} {base : Nat} {v : Value} {d : DataW H} {p : List MemPlace}
    (hv : Value.okWide Try.prog W .any base 22 v) (h : DataW.Trod enc Try.prog W 0 (fun _ => true) true 22 v d p) : ∃ l, Byt W v l := by
  obtain ⟨a0, len, cap, rfl⟩ := okWide_slice Try.underlying22 hv
  obtain ⟨fuel, hf⟩ := h
  rcases open_ints Try.underlying22 Try.underlying5 Try.cells_u8 hf with ⟨hcs, hx⟩ | ⟨a, len', cap', zs, hcs, _, hl, hm, hz, hx, hcell, hwz⟩
  · simp [Value.cells] at hcs
    obtain ⟨rfl, rfl, rfl⟩ := hcs
    exact ⟨[], none, 0, 0, rfl, rfl, by omega, by omega, Rd.nil _ _⟩
  · simp [Value.cells] at hcs
    obtain ⟨rfl, rfl, rfl⟩ := hcs
    simp only [if_true] at hz
    refine ⟨(zs.take len).map fun z => UInt8.ofNat z.toNat, some a, len, cap, rfl, by rw [List.length_map, List.length_take]; omega, hl, by simpa [maxLen] using hm, fun _ => ⟨a, rfl, fun j u hu => ?_⟩⟩
    rw [List.map_map, List.getElem?_map, List.getElem?_take] at hu
    split at hu
    · rename_i hj
      rw [hcell j (by omega)]
      cases hzz : zs[j]? with
      | none => simp [hzz] at hu
      | some z =>
        have hw : (Lit.int .u8 z).wf = true := hwz z (List.mem_of_getElem? hzz)
        have hr : 0 ≤ z ∧ z ≤ 255 := by simpa [Lit.wf, IntKind.min, IntKind.max, IntKind.signed, IntKind.bits] using hw
        simp only [hzz, Option.map_some, Option.some.injEq, Function.comp] at hu
        rw [← hu, List.getD_eq_getElem?_getD, hzz, byteV, UInt8.toNat_ofNat_of_lt' (by show _ < 256; omega)]
        simp only [Option.getD_some]
        congr 2
        omega
    · simp at hu

set_option maxRecDepth 100000 in
theorem respBack_lifted (os : Os) (started : os.Started) (H : Type) (enc : TypeId × Value → H) :
    ReturnsInHanded {} Try.checked os 6 .any (Rows.respBackSpec.pre6 enc Try.prog Try.f6 Rows.respBackRow.domain false) (Rows.respBackSpec.post enc Try.prog Try.f6 false true false false) := by
  refine returnsInHanded_of_change (C := Try.checked) Try.own started (by kernel_rfl) Try.func6
    (ChangeSpec.witness6 (enc := enc) (C := Try.checked) false ⟨#[], #[.slice none 0 0, .string ByteArray.empty, .int .u16 0], []⟩ 8 (by kernel_rfl) (by kernel_rfl) (by kernel_rfl) (by kernel_rfl)) ?_
  intro W base args ds gs before hval0 hW _ _
  have hval : ∀ (j : Nat) t v, Try.f6.params[j]? = some t → args[j]? = some v → Value.okWide Try.prog W .any base t v := hval0
  have hW' : DataW.Whole enc Try.prog Try.f6.params.toList Rows.respBackSpec.vars false W args.toList ds gs before := hW
  have hread : ∀ t ∈ Try.f6.params.toList, Try.prog.readableRec t = true ∧ t < Try.prog.types.size := by
    rw [Try.params6]
    intro t ht
    simp only [List.mem_cons, List.not_mem_nil, or_false] at ht
    rcases ht with rfl | rfl | rfl <;> first | exact readable_of Try.read_items | exact readable_of Try.read_str | exact readable_of Try.read_u16 | exact readable_of Try.read_bytes | exact readable_of Try.read_u8
  obtain ⟨p, q, hA0, hV, _, _, _⟩ := hW
  have hA : DataW.TrodAll enc Try.prog W 0 (fun _ => true) true Try.f6.params.toList args.toList ds p := hA0
  rw [Try.params6] at hA hval
  clear hA0 hval0
  obtain ⟨v0, v1, v2, d0, d1, d2, p0, p1, p2, rfl, rfl, _, h0, h1, h2⟩ := trodAll_three hA
  obtain ⟨rfl, _⟩ := trodVars_none hV
  obtain ⟨x0, a0, r0⟩ := open_items (hval 0 45 v0 rfl rfl) h0
  obtain ⟨x1, rfl, r1⟩ := open_str (hval 1 9 v1 rfl rfl) h1
  obtain ⟨x2, rfl, r2⟩ := open_u16 (hval 2 37 v2 rfl rfl) h2
  refine (respBack_any v0 x0 x1 x2 W a0 r0 r2 r1).mono ?_
  rintro e W' ⟨rfl, hE⟩
  exact ⟨_, rfl, law_post Try.laidOut rfl rfl Try.underlying4 hread hW' rfl hE⟩
theorem respBack_holds : Rows.RespBackSaid :=
  OpenClaim.holds_of_wide 6 Try.f6 rfl rfl rfl rfl rfl rfl rfl ⟨rfl, rfl, rfl, rfl, rfl⟩ rfl rfl rfl rfl rfl (by kernel_rfl) Try.func6 (by kernel_rfl)
    (of_decide_eq_true (by kernel_rfl)) (by unfold Func.isWrapper; first | (rw [if_pos (by decide +kernel)]; kernel_rfl) | (rw [if_neg (by decide +kernel)]; exact ⟨rfl, rfl⟩))
    (fun os started H enc _ => respBack_lifted os started H enc)

set_option maxRecDepth 100000 in
theorem respFeeds_lifted (os : Os) (started : os.Started) (H : Type) (enc : TypeId × Value → H) :
    ReturnsInHanded {} Try.checked os 3 .any (Rows.respFeedsSpec.pre6 enc Try.prog Try.f3 Rows.respFeedsRow.domain false) (Rows.respFeedsSpec.post enc Try.prog Try.f3 false true false false) := by
  refine returnsInHanded_of_change (C := Try.checked) Try.own started (by kernel_rfl) Try.func3
    (ChangeSpec.witness6 (enc := enc) (C := Try.checked) false ⟨#[], #[.string ByteArray.empty, .slice none 0 0], []⟩ 8 (by kernel_rfl) (by kernel_rfl) (by kernel_rfl) (by kernel_rfl)) ?_
  intro W base args ds gs before hval0 hW _ _
  have hval : ∀ (j : Nat) t v, Try.f3.params[j]? = some t → args[j]? = some v → Value.okWide Try.prog W .any base t v := hval0
  have hW' : DataW.Whole enc Try.prog Try.f3.params.toList Rows.respFeedsSpec.vars false W args.toList ds gs before := hW
  have hread : ∀ t ∈ Try.f3.params.toList, Try.prog.readableRec t = true ∧ t < Try.prog.types.size := by
    rw [Try.params3]
    intro t ht
    simp only [List.mem_cons, List.not_mem_nil, or_false] at ht
    rcases ht with rfl | rfl <;> first | exact readable_of Try.read_items | exact readable_of Try.read_str | exact readable_of Try.read_u16 | exact readable_of Try.read_bytes | exact readable_of Try.read_u8
  obtain ⟨p, q, hA0, hV, _, _, _⟩ := hW
  have hA : DataW.TrodAll enc Try.prog W 0 (fun _ => true) true Try.f3.params.toList args.toList ds p := hA0
  rw [Try.params3] at hA hval
  clear hA0 hval0
  obtain ⟨v0, v1, d0, d1, p0, p1, rfl, rfl, _, h0, h1⟩ := trodAll_two hA
  obtain ⟨rfl, _⟩ := trodVars_none hV
  obtain ⟨x0, rfl, r0⟩ := open_str (hval 0 9 v0 rfl rfl) h0
  obtain ⟨x1, a1⟩ := open_byt (hval 1 22 v1 rfl rfl) h1
  refine (respFeeds_any x0 v1 x1 W r0 a1).mono ?_
  rintro e W' ⟨rfl, hE⟩
  exact ⟨_, rfl, law_post Try.laidOut rfl rfl Try.underlying4 hread hW' rfl hE⟩
theorem respFeeds_holds : Rows.RespFeedsSaid :=
  OpenClaim.holds_of_wide 3 Try.f3 rfl rfl rfl rfl rfl rfl rfl ⟨rfl, rfl, rfl, rfl, rfl⟩ rfl rfl rfl rfl rfl (by kernel_rfl) Try.func3 (by kernel_rfl)
    (of_decide_eq_true (by kernel_rfl)) (by unfold Func.isWrapper; first | (rw [if_pos (by decide +kernel)]; kernel_rfl) | (rw [if_neg (by decide +kernel)]; exact ⟨rfl, rfl⟩))
    (fun os started H enc _ => respFeeds_lifted os started H enc)

end Go.Proofs.Ytdbboooblbdihaa
