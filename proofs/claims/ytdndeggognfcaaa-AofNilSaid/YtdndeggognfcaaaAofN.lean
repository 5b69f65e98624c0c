/- AofNil, AofTells walked. -/
import Derived.Test.YtdndeggognfcaaaAofK
namespace Go.Proofs.Ytdndeggognfcaaa
open Go.RowKit Crc Fil
set_option linter.unusedVariables false
set_option linter.unusedSectionVars false
set_option linter.unusedSimpArgs false
set_option maxRecDepth 100000

theorem state_nil (w : World) : Calls Try.prog 40 #[.pointer none] w fun e w' => e = .returned (.int .i64 11) ∧ w = w' := by
  go_enter Try.func40, Try.ntmps40
  go_wp2_with fail
  go_ret
  exact ⟨rfl, rfl⟩
theorem state_zero (z : Nat) (w : World) (c0 : w.cell? ⟨z, 0, none⟩ = some (.pointer none)) : Calls Try.prog 40 #[.pointer (some ⟨z, 0, none⟩)] w fun e w' => e = .returned (.int .i64 11) ∧ w = w' := by
  go_enter Try.func40, Try.ntmps40
  go_wp2_with fail
  go_ret
  exact ⟨rfl, rfl⟩
section
variable {w : World} {v : Option Addr}
theorem append_11 (hst : Calls Try.prog 40 #[.pointer v] w fun e w' => e = .returned (.int .i64 11) ∧ w = w') (s : ByteArray) : Calls Try.prog 18 #[.pointer v, .string s] w fun e w' => e = .returned (.int .i64 11) ∧ w = w' := by
  go_enter Try.func18, Try.ntmps18
  go_wp2_with fail
  refine hst.mono ?_
  rintro e _ ⟨rfl, rfl⟩
  go_wp2_with fail
  go_ret
  exact ⟨rfl, rfl⟩
theorem sync_11 (hst : Calls Try.prog 40 #[.pointer v] w fun e w' => e = .returned (.int .i64 11) ∧ w = w') : Calls Try.prog 19 #[.pointer v] w fun e w' => e = .returned (.int .i64 11) ∧ w = w' := by
  go_enter Try.func19, Try.ntmps19
  go_wp2_with fail
  refine hst.mono ?_
  rintro e _ ⟨rfl, rfl⟩
  go_wp2_with fail
  go_ret
  exact ⟨rfl, rfl⟩
theorem rewrite_11 (hst : Calls Try.prog 40 #[.pointer v] w fun e w' => e = .returned (.int .i64 11) ∧ w = w') (u n : Value) : Calls Try.prog 21 #[.pointer v, u, n] w fun e w' => e = .returned (.int .i64 11) ∧ w = w' := by
  go_enter Try.func21, Try.ntmps21
  go_wp2_with fail
  refine hst.mono ?_
  rintro e _ ⟨rfl, rfl⟩
  go_wp2_with fail
  go_ret
  exact ⟨rfl, rfl⟩
end
theorem records_nil (w : World) : Calls Try.prog 23 #[.pointer none] w fun e w' => e = .returned (.slice none 0 0) ∧ w = w' := by
  go_enter Try.func23, Try.ntmps23
  go_wp2_with fail
  go_ret
  exact ⟨rfl, rfl⟩
theorem lsure_nil (w : World) : Calls Try.prog 25 #[.pointer none] w fun e w' => e = .returned (.int .i64 0) ∧ w = w' := by
  go_enter Try.func25, Try.ntmps25
  go_wp2_with fail
  go_ret
  exact ⟨rfl, rfl⟩
theorem halted_nil (w : World) : Calls Try.prog 20 #[.pointer none] w fun e w' => e = .returned (.bool false) ∧ w = w' := by
  go_enter Try.func20, Try.ntmps20
  go_wp2_with fail
  go_ret
  exact ⟨rfl, rfl⟩
theorem lsure_zero (z : Nat) (w : World) (c3 : w.cell? ⟨z, 3, none⟩ = some (.int .i64 0)) : Calls Try.prog 25 #[.pointer (some ⟨z, 0, none⟩)] w fun e w' => e = .returned (.int .i64 0) ∧ w = w' := by
  go_enter Try.func25, Try.ntmps25
  go_wp2_with fail
  go_ret
  exact ⟨rfl, rfl⟩
theorem halted_zero (z : Nat) (w : World) (c4 : w.cell? ⟨z, 4, none⟩ = some (.bool false)) : Calls Try.prog 20 #[.pointer (some ⟨z, 0, none⟩)] w fun e w' => e = .returned (.bool false) ∧ w = w' := by
  go_enter Try.func20, Try.ntmps20
  go_wp2_with fail
  go_ret
  exact ⟨rfl, rfl⟩
set_option maxHeartbeats 4000000 in
theorem aofNil_any (s : ByteArray) (w : World) : Calls Try.prog 5 #[.string s] w fun e w' => e = .returned (.bool true) ∧ Ext w w' := by
  go_enter Try.func5, Try.ntmps5
  go_wp2_with fail
  refine (append_11 (state_nil _) s).mono ?_
  rintro e _ ⟨rfl, rfl⟩
  have hb := heap_alloc_new w (.cells #[.pointer none, .pointer none, .slice none 0 0, .int .i64 0, .bool false] 47 (0, 0))
  have hx := Ext.alloc w (.cells #[.pointer none, .pointer none, .slice none 0 0, .int .i64 0, .bool false] 47)
  generalize w.heap.size = z at hb ⊢
  generalize w.alloc (.cells #[.pointer none, .pointer none, .slice none 0 0, .int .i64 0, .bool false] 47) = w1 at hb hx ⊢
  have HB := Lib.hid hb
  have HX := Lib.hid hx
  clear hb hx
  go_wp2_with fail
  refine (append_11 (state_zero z _ (heap_cell HB.out 0)) s).mono ?_
  rintro e _ ⟨rfl, rfl⟩
  go_wp2_with fail
  refine (sync_11 (state_nil _)).mono ?_
  rintro e _ ⟨rfl, rfl⟩
  go_wp2_with fail
  refine (sync_11 (state_zero z _ (heap_cell HB.out 0))).mono ?_
  rintro e _ ⟨rfl, rfl⟩
  go_wp2_with fail
  refine (rewrite_11 (state_nil _) _ _).mono ?_
  rintro e _ ⟨rfl, rfl⟩
  go_wp2_with fail
  refine (rewrite_11 (state_zero z _ (heap_cell HB.out 0)) _ _).mono ?_
  rintro e _ ⟨rfl, rfl⟩
  go_wp2_with fail
  refine (records_nil _).mono ?_
  rintro e _ ⟨rfl, rfl⟩
  go_wp2_with fail
  refine (records_core z _ _ _ _ _ [] _ HB.out (World.ownsRow_nil _ _ _ _) (by decide)).mono ?_
  rintro e w2 ⟨u2, rfl, hu2, hx2⟩
  obtain ⟨A2, c2, rfl⟩ := own_len hu2
  have HX2 := Lib.hid (HX.out.trans hx2)
  have HB2 := Lib.hid ((Kp.of_ext (L := []) hx2).heap HB.out (by simp))
  clear hu2 hx2
  go_wp2_with fail
  refine (lsure_nil _).mono ?_
  rintro e _ ⟨rfl, rfl⟩
  go_wp2_with fail
  refine (lsure_zero z _ (heap_cell HB2.out 3)).mono ?_
  rintro e _ ⟨rfl, rfl⟩
  go_wp2_with fail
  refine (halted_nil _).mono ?_
  rintro e _ ⟨rfl, rfl⟩
  go_wp2_with fail
  refine (halted_zero z _ (heap_cell HB2.out 4)).mono ?_
  rintro e _ ⟨rfl, rfl⟩
  go_wp2_with fail
  refine (known_any _).mono ?_
  rintro e w9 ⟨rfl, hx9⟩
  go_wp2_with fail
  go_ret
  exact ⟨rfl, HX2.out.trans hx9⟩
end Go.Proofs.Ytdndeggognfcaaa
