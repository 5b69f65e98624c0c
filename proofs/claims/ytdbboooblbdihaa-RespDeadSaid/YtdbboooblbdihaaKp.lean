/- What a call may have changed: the blocks of a list, and new ones. -/
import Derived.Test.YtdbboooblbdihaaMem
namespace Go.Proofs.Ytdbboooblbdihaa
open Go.RowKit
set_option linter.unusedVariables false

/-- Only the blocks of L may have changed; new ones may have come. -/
structure Kp (L : List Nat) (w w' : World) : Prop where
  os : w'.os = w.os
  tape : w'.tape = w.tape
  output : w'.output = w.output
  size : w.heap.size ≤ w'.heap.size
  block : ∀ k, k < w.heap.size → k ∉ L → w'.heap[k]? = w.heap[k]?
/-- The blocks of L' are of L, or new. -/
def Sub (w : World) (L L' : List Nat) : Prop := ∀ k ∈ L', k ∈ L ∨ w.heap.size ≤ k

section
variable {w w' w'' w0 : World} {L L' : List Nat} {B : Nat}
theorem Kp.refl (L : List Nat) (w : World) : Kp L w w := ⟨rfl, rfl, rfl, Nat.le_refl _, fun _ _ _ => rfl⟩
theorem Kp.trans (h : Kp L w w') (k : Kp L' w' w'') (hs : Sub w L L') : Kp L w w'' :=
  ⟨k.os.trans h.os, k.tape.trans h.tape, k.output.trans h.output, Nat.le_trans h.size k.size, fun i hi hn =>
    (k.block i (Nat.lt_of_lt_of_le hi h.size) (fun hm => (hs i hm).elim hn (fun hh => by omega))).trans (h.block i hi hn)⟩
theorem Sub.refl (w : World) (L : List Nat) : Sub w L L := fun _ h => .inl h
theorem Sub.trans {L'' : List Nat} (h : Sub w L L') (k : Sub w' L' L'') (hz : w.heap.size ≤ w'.heap.size) : Sub w L L'' := fun i hi =>
  (k i hi).elim (fun hm => h i hm) (fun hm => .inr (Nat.le_trans hz hm))
theorem Kp.and (h : Kp L w w') (k : Kp L w' w'') : Kp L w w'' := h.trans k (Sub.refl _ _)
theorem Kp.of_ext (h : Ext w w') : Kp L w w' := ⟨h.os, h.tape, h.output, h.size, fun k hk _ => h.block k hk⟩
theorem Kp.ext (h : Kp [] w w') : Ext w w' := ⟨h.os, h.tape, h.output, h.size, fun k hk => h.block k hk (by simp)⟩
theorem Kp.then (h : Kp L w w') (k : Ext w' w'') : Kp L w w'' := h.trans (Kp.of_ext (L := []) k) (fun _ h => by simp at h)
theorem Kp.mono (h : Kp L w w') (hs : ∀ k ∈ L, k ∈ L') : Kp L' w w' := ⟨h.os, h.tape, h.output, h.size, fun k hk hn => h.block k hk (fun hm => hn (hs k hm))⟩
theorem Kp.store (g i : Nat) (u : Value) (hg : g ∈ L) : Kp L w (w.setCell ⟨g, i, none⟩ u) :=
  ⟨rfl, rfl, rfl, by simp, fun k hk hn => Below.heap_setCell _ _ _ _ (by rintro rfl; exact hn hg)⟩
theorem Kp.below (h : Kp L w w') (hb : Below B w0 w) (hL : ∀ k ∈ L, B ≤ k) (hB : B ≤ w.heap.size) : Below B w0 w' :=
  hb.trans ⟨h.os, h.tape, h.output, h.size, fun k hk => h.block k (by omega) (fun hm => by have := hL k hm; omega)⟩
theorem Kp.to_ext (h : Kp L w w') (hb : Ext w0 w) (hL : ∀ k ∈ L, w0.heap.size ≤ k) : Ext w0 w' := Kp.below h hb hL hb.size
theorem Kp.heap (h : Kp L w w') {k : Nat} {o : Obj} (hk : w.heap[k]? = some o) (hn : k ∉ L) : w'.heap[k]? = some o :=
  (h.block k (Array.getElem?_eq_some_iff.1 hk).1 hn).trans hk
theorem Kp.cell (h : Kp L w w') {a : Addr} {u : Value} (hc : w.cell? a = some u) (hn : a.block ∉ L) : w'.cell? a = some u := by
  rw [World.cell?_of_block (w := w) (w' := w') (a := a) (h.block _ (World.block_lt_of_cell? w _ hc) hn)]
  exact hc
theorem Kp.rd {A : Option Addr} {cs : List Value} (h : Kp L w w') (hr : Rd w A cs) (hn : ∀ ad, A = some ad → ad.block ∉ L) : Rd w' A cs := fun hne => by
  obtain ⟨ad, e, hcell⟩ := hr hne
  refine ⟨ad, e, fun j u hu => ?_⟩
  exact h.cell (hcell j u hu) (by rw [add_block]; exact hn ad e)
end
end Go.Proofs.Ytdbboooblbdihaa
