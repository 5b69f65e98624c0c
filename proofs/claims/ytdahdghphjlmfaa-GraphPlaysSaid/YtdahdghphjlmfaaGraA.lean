/- What package graph's pick is handed: the three questions; All, Of. -/
import Derived.Test.YtdahdghphjlmfaaGraT
namespace Go.Proofs.Ytdahdghphjlmfaa
open Go.RowKit Sets Gra
set_option linter.unusedVariables false

theorem allQ_call (a : Array Value) (w : World) : (callFunc 32 a).run Try.prog w = .ok (.enter 32 a) w := by kernel_rfl
theorem ofQ_call (a : Array Value) (w : World) : (callFunc 33 a).run Try.prog w = .ok (.enter 33 a) w := by kernel_rfl
theorem goneQ_call (a : Array Value) (w : World) : (callFunc 31 a).run Try.prog w = .ok (.enter 31 a) w := by kernel_rfl
def isSrc (s : ByteArray) (r : Rule) : Bool := decide (r.src = s)
def isAt (s : ByteArray) (r : Rule) : Bool := decide (r.src = s) || decide (r.dst = s)
theorem eq_dec (a b : ByteArray) : (a.toList == b.toList) = decide (a = b) := by
  by_cases h : a = b
  · simp [h]
  · rw [decide_eq_false h, beq_eq_false_iff_ne]
    exact fun e => h (text_ext e)

theorem allQ_any (r : Rule) (w : World) : Calls Try.prog 32 (#[ruleV r] ++ #[]) w fun e w' => e = .returned (.bool true) ∧ Ext w w' := by
  obtain ⟨qs, qd, qk, qz, qa⟩ := r
  simp only [ruleV]
  go_enter Try.func32, Try.ntmps32
  go_wp2_with fail
  go_ret
  exact ⟨rfl, Ext.alloc _ _⟩
theorem ofQ_any (s : ByteArray) (p : Nat) (r : Rule) (w : World) (h : w.cell? ⟨p, 0, none⟩ = some (.string s)) : Calls Try.prog 33 (#[ruleV r] ++ #[.pointer (some ⟨p, 0, none⟩)]) w fun e w' => e = .returned (.bool (isSrc s r)) ∧ Ext w w' := by
  obtain ⟨qs, qd, qk, qz, qa⟩ := r
  simp only [ruleV]
  have hlt := World.block_lt_of_cell? w _ h
  have hd := eq_dec qs s
  go_enter Try.func33, Try.ntmps33
  go_wp2_with fail
  go_ret
  exact ⟨rfl, Ext.alloc _ _⟩
theorem goneQ_any (s : ByteArray) (p : Nat) (r : Rule) (w : World) (h : w.cell? ⟨p, 0, none⟩ = some (.string s)) : Calls Try.prog 31 (#[ruleV r] ++ #[.pointer (some ⟨p, 0, none⟩)]) w fun e w' => e = .returned (.bool (isAt s r)) ∧ Ext w w' := by
  obtain ⟨qs, qd, qk, qz, qa⟩ := r
  simp only [ruleV]
  have hlt := World.block_lt_of_cell? w _ h
  have hd := eq_dec qs s
  have hd2 := eq_dec qd s
  go_enter Try.func31, Try.ntmps31
  by_cases hs : qs = s
  · have h1 : (qs.toList == s.toList) = true := by rw [hd]; simp [hs]
    go_wp2_with fail
    go_ret
    exact ⟨by simp [isAt], Ext.alloc _ _⟩
  · have h1 : (qs.toList == s.toList) = false := by rw [hd]; simp [hs]
    go_wp2_with fail
    go_ret
    exact ⟨by simp [isAt, hs], Ext.alloc _ _⟩

theorem all_any (B g : Nat) (L : List Rule) (w : World) (h : GraphAt B w g L) (hlen : L.length ≤ 100000) :
    Calls Try.prog 24 #[.pointer (some ⟨g, 0, none⟩)] w fun e w' => ∃ v, e = .returned v ∧ Row ruleC w' v L ∧ Ext w w' := by
  have H := Lib.hid h
  clear h
  go_enter Try.func24, Try.ntmps24
  go_wp2_with fail
  refine (pick_any (fun _ => true) 32 #[] allQ_call B g L w H.out hlen (fun r w' _ => allQ_any r w')).mono ?_
  rintro e w1 ⟨v, rfl, hr, hx⟩
  have hf : L.filter (fun _ => true) = L := List.filter_eq_self.2 fun _ _ => rfl
  rw [hf] at hr
  have HR := Lib.hid hr
  clear hr hf
  go_wp2_with fail
  go_ret
  exact ⟨_, rfl, HR.out, hx⟩
theorem of_graph (B g : Nat) (L : List Rule) (s : ByteArray) (w : World) (h : GraphAt B w g L) (hlen : L.length ≤ 100000) :
    Calls Try.prog 25 #[.pointer (some ⟨g, 0, none⟩), .string s] w fun e w' => ∃ v, e = .returned v ∧ Row ruleC w' v (ofL L s) ∧ Ext w w' := by
  have H := Lib.hid (h.ext (Ext.alloc w (.cells #[.string s] 9)))
  clear h
  have hc : (w.alloc (.cells #[.string s] 9)).cell? ⟨w.heap.size, 0, none⟩ = some (.string s) := heap_cell (heap_alloc_new w _) 0
  go_enter Try.func25, Try.ntmps25
  go_wp2_with fail
  refine (pick_any (isSrc s) 33 #[.pointer (some ⟨w.heap.size, 0, none⟩)] ofQ_call B g L _ H.out hlen (fun r w' hx => ofQ_any s _ r w' (hx.cell hc))).mono ?_
  rintro e w1 ⟨v, rfl, hr, hx⟩
  have HR := Lib.hid hr
  clear hr
  go_wp2_with fail
  go_ret
  exact ⟨_, rfl, HR.out, (Ext.alloc _ _).trans hx⟩
end Go.Proofs.Ytdahdghphjlmfaa
