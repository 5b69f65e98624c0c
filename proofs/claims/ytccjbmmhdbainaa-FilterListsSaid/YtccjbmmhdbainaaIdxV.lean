/- Package index: Has, Labels, Find, With walked. -/
import Derived.Test.YtccjbmmhdbainaaIdxW
namespace Go.Proofs.Ytccjbmmhdbainaa
open Go.RowKit Sets
set_option linter.unusedVariables false
set_option maxRecDepth 100000
set_option linter.unusedSectionVars false
set_option linter.unusedSimpArgs false

theorem Try.labInfo : (Try.prog.info? 69).map (fun i => (i.zero, i.size, i.bytes)) = some (some (.agg #[.string ByteArray.empty, .string ByteArray.empty]), 2, 32) := by kernel_rfl
section
variable {B x b1 b2 b3 : Nat} {w w' : World} {G : ByteArray → Option (List Lab)} {F : Lab → Option (List ByteArray)} {N : ByteArray → Option (List ByteArray)}
theorem IdxM.ext (h : IdxM B w x G F N b1 b2 b3) (hx : Ext w w') : IdxM B w' x G F N b1 b2 b3 :=
  ⟨(Kp.of_ext (L := []) hx).heap h.blk (by simp), h.g.ext row_cm hx, h.f.ext txt_cm hx, h.n.ext txt_cm hx, h.d12, h.d13, h.d23, h.hx, h.h1, h.h2, h.h3⟩
theorem row_nil (w : World) : Row labC w (.slice none 0 0) [] := ⟨none, 0, 0, rfl, rfl, by omega, by simp [maxLen], Rd.nil _ _⟩
theorem txt_nil (w : World) : Txt w (.slice none 0 0) [] := ⟨none, 0, 0, rfl, rfl, by omega, by omega, Rd.nil _ _⟩
theorem IdxM.lookG (h : IdxM B w x G F N b1 b2 b3) (s : ByteArray) (hs : okS s) : ∃ v, Row labC w v ((G s).getD []) ∧ ∀ w', Ext w w' → (Instr.lookup 84 (.map (some b1)) (.string s) false).run Try.prog w' = .ok v w' ∧ (Instr.lookup 84 (.map (some b1)) (.string s) true).run Try.prog w' = .ok (.tuple #[v, .bool (G s).isSome]) w' := by
  obtain ⟨v, h1, h2, h3⟩ := h.g.look Try.strK Try.underlying84 Try.zeroLabs s hs
  refine ⟨v, ?_, h3⟩
  cases hg : G s with
  | none => rw [h2 hg]; exact row_nil w
  | some a => exact h1 a hg
theorem IdxM.lookF (h : IdxM B w x G F N b1 b2 b3) (y : Lab) (hs : okL y) : ∃ v, Txt w v ((F y).getD []) ∧ ∀ w', Ext w w' → (Instr.lookup 85 (.map (some b2)) (labV y) false).run Try.prog w' = .ok v w' := by
  obtain ⟨v, h1, h2, h3⟩ := h.f.look labKe Try.underlying85 Try.zeroStrs y hs
  refine ⟨v, ?_, fun w' hw => (h3 w' hw).1⟩
  cases hg : F y with
  | none => rw [h2 hg]; exact txt_nil w
  | some a => exact h1 a hg
theorem IdxM.lookN (h : IdxM B w x G F N b1 b2 b3) (s : ByteArray) (hs : okS s) : ∃ v, Txt w v ((N s).getD []) ∧ ∀ w', Ext w w' → (Instr.lookup 86 (.map (some b3)) (.string s) false).run Try.prog w' = .ok v w' := by
  obtain ⟨v, h1, h2, h3⟩ := h.n.look Try.strK Try.underlying86 Try.zeroStrs s hs
  refine ⟨v, ?_, fun w' hw => (h3 w' hw).1⟩
  cases hg : N s with
  | none => rw [h2 hg]; exact txt_nil w
  | some a => exact h1 a hg
theorem has_any (h : IdxM B w x G F N b1 b2 b3) (s : ByteArray) (hs : okS s) : Calls Try.prog 66 #[.pointer (some ⟨x, 0, none⟩), .string s] w fun e w' => e = .returned (.bool (G s).isSome) ∧ w = w' := by
  obtain ⟨v, _, hl⟩ := h.lookG s hs
  have hrun := (hl w (Ext.refl w)).2
  have c0 := heap_cell h.blk 0
  clear hl h
  go_enter Try.func66, Try.ntmps66
  go_wp2_with fail
  go_ret
  exact ⟨rfl, rfl⟩
theorem labels_any (h : IdxM B w x G F N b1 b2 b3) (s : ByteArray) (hs : okS s) (hl : ((G s).getD []).length ≤ 100000) : Calls Try.prog 31 #[.pointer (some ⟨x, 0, none⟩), .string s] w fun e w' => ∃ v, e = .returned v ∧ Row labC w' v ((G s).getD []) ∧ Ext w w' := by
  obtain ⟨i1, hi1, hz3, hz4, hz5⟩ := info_parts Try.labInfo
  obtain ⟨v, hrow, hlk⟩ := h.lookG s hs
  have hrun := (hlk w (Ext.refl w)).1
  have c0 := heap_cell h.blk 0
  obtain ⟨A, n, c, rfl, hn, hnc, hcm, hr⟩ := hrow
  generalize (G s).getD [] = l at hn hr hl
  have HN := Lib.hid hn
  have HR := Lib.hid hr
  clear hlk h hn hr
  go_enter Try.func31, Try.ntmps31
  go_wp2_with (first
    | (at_builtin
       refine app_row labC_len labC_one _ rfl (.const (.slice none 0 0)) (.tmp 12) 25 69 rfl i1 (.agg #[.string ByteArray.empty, .string ByteArray.empty]) 32 Try.underlying25 hi1 hz3 hz4 hz5 rfl (by decide) (by decide) w.heap.size (.slice none 0 0) [] rfl (World.ownsRow_nil _ _ _ _) (Nat.le_refl _) A n c l rfl HN.out HR.out (by simp; omega) ?_
       intro v7 w7 hown7 hchg7
       have hext7 := hchg7.to_ext (Nat.le_refl _)
       clear hchg7))
  go_ret
  exact ⟨_, rfl, by have := own_row hown7; simpa using this, hext7⟩
theorem find_any (h : IdxM B w x G F N b1 b2 b3) (y : Lab) (hs : okL y) (hl : ((F y).getD []).length ≤ 100000) : Calls Try.prog 62 #[.pointer (some ⟨x, 0, none⟩), .string y.1, .string y.2] w fun e w' => ∃ v, e = .returned v ∧ Txt w' v ((F y).getD []) ∧ Ext w w' := by
  obtain ⟨v, hrow, hlk⟩ := h.lookF y hs
  have hrun := hlk w (Ext.refl w)
  have c0 := heap_cell h.blk 1
  obtain ⟨A, n, c, rfl, hn, hnc, hcm, hr⟩ := hrow
  generalize (F y).getD [] = l at hn hr hl
  have HN := Lib.hid hn
  have HR := Lib.hid hr
  obtain ⟨y1, y2⟩ := y
  simp only [labV] at hrun
  clear hlk h hn hr
  go_enter Try.func62, Try.ntmps62
  go_wp2_with (first
    | (at_builtin
       refine app_strs _ rfl (.const (.slice none 0 0)) (.tmp 16) rfl w (.slice none 0 0) [] rfl (World.ownsRow_nil _ _ _ _) A n c l rfl HN.out HR.out (by simp; omega) (Ext.refl _) ?_
       intro v7 w7 hown7 hext7))
  go_ret
  exact ⟨_, rfl, by have := txt_own hown7; simpa using this, hext7⟩
theorem with_any (h : IdxM B w x G F N b1 b2 b3) (s : ByteArray) (hs : okS s) (hl : ((N s).getD []).length ≤ 100000) : Calls Try.prog 60 #[.pointer (some ⟨x, 0, none⟩), .string s] w fun e w' => ∃ v, e = .returned v ∧ Txt w' v ((N s).getD []) ∧ Ext w w' := by
  obtain ⟨v, hrow, hlk⟩ := h.lookN s hs
  have hrun := hlk w (Ext.refl w)
  have c0 := heap_cell h.blk 2
  obtain ⟨A, n, c, rfl, hn, hnc, hcm, hr⟩ := hrow
  generalize (N s).getD [] = l at hn hr hl
  have HN := Lib.hid hn
  have HR := Lib.hid hr
  clear hlk h hn hr
  go_enter Try.func60, Try.ntmps60
  go_wp2_with (first
    | (at_builtin
       refine app_strs _ rfl (.const (.slice none 0 0)) (.tmp 12) rfl w (.slice none 0 0) [] rfl (World.ownsRow_nil _ _ _ _) A n c l rfl HN.out HR.out (by simp; omega) (Ext.refl _) ?_
       intro v7 w7 hown7 hext7))
  go_ret
  exact ⟨_, rfl, by have := txt_own hown7; simpa using this, hext7⟩
end
end Go.Proofs.Ytccjbmmhdbainaa
