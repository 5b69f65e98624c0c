/- The walks of package graph: a rule is right; graphs in memory. -/
import Derived.Test.YtdahdghphjlmfaaGraP
import Derived.Test.YtdahdghphjlmfaaMpR
import Derived.Test.YtdahdghphjlmfaaSetO
import Derived.Test.YtdahdghphjlmfaaRow
import Derived.Carry
namespace Go.Proofs.Ytdahdghphjlmfaa
open Go.RowKit Sets Gra
set_option linter.unusedVariables false

def ruleC (r : Rule) : List Value := [.string r.src, .string r.dst, .int .i64 r.kind, .int .i64 r.size, .int .i64 r.align]
def ruleV (r : Rule) : Value := .agg #[.string r.src, .string r.dst, .int .i64 r.kind, .int .i64 r.size, .int .i64 r.align]
theorem ruleC_len (r : Rule) : (ruleC r).length = 5 := rfl
structure RuleOk (r : Rule) : Prop where
  s : r.src.size ≤ 9223372036854775807
  d : r.dst.size ≤ 9223372036854775807
  k1 : -9223372036854775808 ≤ r.kind
  k2 : r.kind ≤ 9223372036854775807
  z1 : -9223372036854775808 ≤ r.size
  z2 : r.size ≤ 9223372036854775807
  a1 : -9223372036854775808 ≤ r.align
  a2 : r.align ≤ 9223372036854775807

def okS (s : ByteArray) : Prop := s.size ≤ 9223372036854775807
theorem strKe {P : Program} {k : TypeId} (hk : P.underlying k = some .string) : Ke P k Value.string okS :=
  ⟨Maps.string_keyed hk, fun x hx => ⟨_, Go.WideMaps.keyOf_string_mk hk (by unfold okS at hx; simpa [maxLen] using hx)⟩, fun x y h => by injection h⟩

/-- Cells are as they were; maps may have turned. -/
structure Cm (w w' : World) : Prop where
  os : w'.os = w.os
  tape : w'.tape = w.tape
  output : w'.output = w.output
  size : w.heap.size ≤ w'.heap.size
  cells : ∀ (k : Nat) (c : Array Value) (e : TypeId) (f : Nat × Nat), w.heap[k]? = some (.cells c e f) → w'.heap[k]? = some (.cells c e f)
section
variable {w w' w'' : World}
theorem Cm.refl (w : World) : Cm w w := ⟨rfl, rfl, rfl, Nat.le_refl _, fun _ _ _ _ h => h⟩
theorem Cm.trans (h : Cm w w') (k : Cm w' w'') : Cm w w'' := ⟨k.os.trans h.os, k.tape.trans h.tape, k.output.trans h.output, Nat.le_trans h.size k.size, fun i c e f hi => k.cells i c e f (h.cells i c e f hi)⟩
theorem Cm.of_ext (h : Ext w w') : Cm w w' := ⟨h.os, h.tape, h.output, h.size, fun k c e f hk => (h.block k (Array.getElem?_eq_some_iff.1 hk).1).trans hk⟩
theorem Cm.of_map {κ : Type} {enc : κ → Value} {ok : κ → Prop} {b : Nat} {l : List (κ × Value)} (h : Kp [b] w w') (hm : MapAt enc ok w b l) : Cm w w' :=
  ⟨h.os, h.tape, h.output, h.size, fun k c e f hk => h.heap hk (by
    simp
    rintro rfl
    exact hm.cells hk)⟩
theorem cell_cells {a : Addr} {u : Value} (h : w.cell? a = some u) : ∃ c e f, w.heap[a.block]? = some (.cells c e f) := by
  unfold World.cell? at h
  split at h
  · rename_i c e f hh
    exact ⟨c, e, f, hh⟩
  · cases h
theorem Cm.cell (h : Cm w w') {a : Addr} {u : Value} (hc : w.cell? a = some u) : w'.cell? a = some u := by
  obtain ⟨c, e, f, hh⟩ := cell_cells hc
  rw [World.cell?_of_block (w := w) (w' := w') (a := a) ((h.cells _ _ _ _ hh).trans hh.symm)]
  exact hc
theorem Cm.rd (h : Cm w w') {A : Option Addr} {cs : List Value} (hr : Rd w A cs) : Rd w' A cs := hr.keep fun _ _ hc => h.cell hc
theorem Cm.row (h : Cm w w') {α : Type} {f : α → List Value} {v : Value} {xs : List α} (hr : Row f w v xs) : Row f w' v xs := by
  obtain ⟨A, n, c, h1, h2, h3, h4, h5⟩ := hr
  exact ⟨A, n, c, h1, h2, h3, h4, h.rd h5⟩
end

/-- A graph at block g; its map lies from block B on. -/
def GraphAt (B : Nat) (w : World) (g : Nat) (L : List Rule) : Prop :=
  ∃ b l, w.heap[g]? = some (.cells #[.map (some b)] 62 (0, 0)) ∧ MapAt Value.string okS w b l ∧ l.Perm (L.map fun r => (r.dst, ruleV r)) ∧ B ≤ b ∧ B ≤ g ∧ Ok L
theorem GraphAt.ext {B g : Nat} {w w' : World} {L : List Rule} (h : GraphAt B w g L) (hx : Ext w w') : GraphAt B w' g L := by
  obtain ⟨b, l, h1, h2, h3, h4, h5, h6⟩ := h
  exact ⟨b, l, (Kp.of_ext (L := []) hx).heap h1 (by simp), h2.ext hx, h3, h4, h5, h6⟩
theorem GraphAt.ok {B g : Nat} {w : World} {L : List Rule} (h : GraphAt B w g L) : Ok L := by
  obtain ⟨b, l, h1, h2, h3, h4, h5, h6⟩ := h
  exact h6

theorem new_any (w : World) : Calls Try.prog 9 #[] w fun e w' => ∃ g, e = .returned (.pointer (some ⟨g, 0, none⟩)) ∧ GraphAt w.heap.size w' g [] ∧ Ext w w' := by
  have hmm := @run_makeMap Try.prog
  go_enter Try.func9, Try.ntmps9
  go_wp2_with fail
  go_ret
  refine ⟨w.heap.size + 1, rfl, ⟨w.heap.size, [], ?_, (MapAt.made w).ext (Ext.alloc _ _), by simp, Nat.le_refl _, by omega, Ok.nil⟩, (Ext.alloc w _).trans (Ext.alloc _ _)⟩
  have := heap_alloc_new (w.alloc (.map #[] 0)) (.cells #[.map (some w.heap.size)] 62)
  simpa using this

theorem key_any (s : ByteArray) (w : World) (hs : s.size ≤ 9223372036854775807) : Calls Try.prog 34 #[.string s] w fun e w' => e = .returned (.bool (keyR s)) ∧ w = w' := by
  by_cases h0 : s.size = 0
  · have hl : s.toList = [] := List.eq_nil_of_length_eq_zero (by rw [Lib.toList_data]; simpa using h0)
    have hk : keyR s = false := by simp [keyR, h0]
    rw [hk]
    clear h0 hk
    go_enter Try.func34, Try.ntmps34
    go_wp2_with fail
    go_ret
    exact ⟨rfl, rfl⟩
  · have hl : s.toList ≠ [] := fun h => h0 (by
      have : s.toList.length = 0 := by rw [h]; rfl
      rw [Lib.toList_data] at this
      simpa using this)
    have hl1 : s.toList.isEmpty = false := by simpa using hl
    have hl2 : (!s.toList.isEmpty) = true := by simpa using hl
    by_cases h64 : s.size ≤ 64
    · have hk : keyR s = true := by simp [keyR, h64]; omega
      have h64I : (s.size : Int) ≤ 64 := by omega
      rw [hk]
      clear h0 hk hl h64
      go_enter Try.func34, Try.ntmps34
      go_wp2_with fail
      go_ret
      exact ⟨rfl, rfl⟩
    · have hk : keyR s = false := by simp [keyR, h64]
      have h64I : decide ((s.size : Int) ≤ 64) = false := by rw [decide_eq_false_iff_not]; omega
      rw [hk]
      clear h0 hk hl h64
      go_enter Try.func34, Try.ntmps34
      go_wp2_with fail
      go_ret
      exact ⟨rfl, rfl⟩
theorem aright_any (k : Int) (w : World) : Calls Try.prog 35 #[.int .i64 k] w fun e w' => e = .returned (.bool (decide (1 ≤ k ∧ k ≤ 7))) ∧ w = w' := by
  by_cases h1 : 1 ≤ k
  · by_cases h7 : k ≤ 7
    · rw [show decide (1 ≤ k ∧ k ≤ 7) = true by simp [h1, h7]]
      go_enter Try.func35, Try.ntmps35
      go_wp2_with fail
      go_ret
      exact ⟨rfl, rfl⟩
    · rw [show decide (1 ≤ k ∧ k ≤ 7) = false by simp [h7]]
      have : 7 < k := by omega
      go_enter Try.func35, Try.ntmps35
      go_wp2_with fail
      go_ret
      exact ⟨rfl, rfl⟩
  · rw [show decide (1 ≤ k ∧ k ≤ 7) = false by simp [h1]]
    have : k < 1 := by omega
    go_enter Try.func35, Try.ntmps35
    go_wp2_with fail
    go_ret
    exact ⟨rfl, rfl⟩
end Go.Proofs.Ytdahdghphjlmfaa
