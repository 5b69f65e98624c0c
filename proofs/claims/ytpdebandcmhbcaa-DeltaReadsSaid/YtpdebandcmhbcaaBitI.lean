/- Writers and readers later on; bits that are read back (plain): what BitK and BitX have beside their statements. -/
import Derived.Test.YtpdebandcmhbcaaBitV
import Derived.Test.YtpdebandcmhbcaaBitG
import Derived.Test.YtpdebandcmhbcaaBitZ
namespace Go.Proofs.Ytpdebandcmhbcaa
open Go.RowKit Bit
set_option linter.unusedVariables false

section
variable {B g : Nat} {l : List Bool} {w w' : World}
theorem Wr.chg {S : List TypeId} (h : Wr B w g l) (hc : Chg B S w w') (h1 : 28 ∉ S) (h2 : 5 ∉ S) : Wr B w' g l := by
  obtain ⟨bv, bs, hg, hB, ho, hp⟩ := h
  exact ⟨bv, bs, hc.heap_type hg h1, hB, own_chg ho hc h2, hp⟩
theorem Wr.ext (h : Wr B w g l) (hc : Ext w w') : Wr B w' g l := h.chg (S := []) (Chg.of_ext hc) (by simp) (by simp)
theorem Rdr.ext {s : ByteArray} {n k : Nat} (h : Rdr w g s n k) (hc : Ext w w') : Rdr w' g s n k := h.chg (S := []) (Chg.of_ext (B := 0) hc) (by simp)
theorem Wr.new (w : World) (B : Nat) (hB : B ≤ w.heap.size) : Wr B (w.alloc (.cells #[.slice none 0 0, .int .i64 0] 28)) w.heap.size [] :=
  ⟨_, [], heap_alloc_last w _, hB, World.ownsRow_nil _ _ _ _, Packed.nil⟩
theorem Rdr.put {S : List TypeId} {s : ByteArray} {n k : Nat} (h : Rdr w g s n k) (hc : Chg B S w w') (h1 : 77 ∉ S) : Rdr w' g s n k := h.chg hc h1
end
theorem ext_drew {w w' : World} (h : ∃ q, w' = w.drewN q) : Ext w w' := by
  obtain ⟨q, rfl⟩ := h
  exact Ext.drewN q _
theorem packed_of {l : List Bool} {bs : List UInt8} (h : bs.length = (l.length + 7) / 8 ∧ ∀ j, j < bs.length → ∀ i, i < 8 → (bs.getD j 0).toNat.testBit (7 - i) = l.getD (8 * j + i) false) : Packed l bs :=
  ⟨h.1, fun j i hj hi => h.2 j hj i hi⟩
theorem num_bit : ∀ (n : Nat) (l : List Bool), l.length = n → ∀ i, i < n → (num l).testBit (n - 1 - i) = l.getD i false := by
  intro n
  induction n with
  | zero => intro l _ i hi; omega
  | succ n ih =>
    intro l hl i hi
    obtain ⟨l', x, rfl⟩ : ∃ l' x, l = l' ++ [x] := ⟨l.dropLast, l.getLast (by intro h; simp [h] at hl), (List.dropLast_concat_getLast _).symm⟩
    have hl' : l'.length = n := by simpa using hl
    rw [num_snoc, getD_snoc, hl']
    by_cases hn : i = n
    · subst hn
      rw [if_pos rfl, show i + 1 - 1 - i = 0 by omega, Nat.testBit_zero]
      cases x <;> simp <;> omega
    · rw [if_neg hn, show n + 1 - 1 - i = (n - 1 - i) + 1 by omega, Nat.testBit_succ, show (2 * num l' + x.toNat) / 2 = num l' by cases x <;> simp <;> omega]
      exact ih l' hl' i (by omega)
theorem bitsOf_num (l : List Bool) : bitsOf (num l) l.length = l := by
  apply List.ext_getElem
  · rw [length_bitsOf]
  · intro i h1 h2
    have := bitsOf_get (num l) l.length i h2
    rw [num_bit l.length l rfl i h2, List.getD_eq_getElem?_getD, List.getD_eq_getElem?_getD, List.getElem?_eq_getElem h1, List.getElem?_eq_getElem h2] at this
    exact this
theorem bitAt_packed {l : List Bool} {s : ByteArray} (h : Packed l s.toList) (i : Nat) (hi : i < l.length) : bitAt s i = l.getD i false := by
  have := h.2 (i / 8) (i % 8) (by rw [h.1]; omega) (by omega)
  rw [bitAt, this, show 8 * (i / 8) + i % 8 = i by omega]
theorem bitsAt_packed {l : List Bool} {s : ByteArray} (h : Packed l s.toList) (a m : Nat) (hm : a + m ≤ l.length) : bitsAt s a m = (l.drop a).take m := by
  apply List.ext_getElem
  · simp [bitsAt_length]; omega
  · intro i h1 h2
    rw [bitsAt_length] at h1
    simp only [bitsAt, List.getElem_map, List.getElem_range, List.getElem_take, List.getElem_drop]
    rw [bitAt_packed h (a + i) (by omega), List.getD_eq_getElem?_getD, List.getElem?_eq_getElem (by omega)]
    rfl
theorem packed_bits (s : ByteArray) : Packed (bitsAt s 0 (8 * s.size)) s.toList := by
  refine ⟨by rw [bitsAt_length, size_list]; omega, fun j i hj hi => ?_⟩
  rw [size_list] at hj
  have hb : 8 * j + i < (bitsAt s 0 (8 * s.size)).length := by rw [bitsAt_length]; omega
  rw [List.getD_eq_getElem?_getD, List.getD_eq_getElem?_getD, List.getElem?_eq_getElem hb]
  simp only [bitsAt, List.getElem_map, List.getElem_range, Option.getD_some]
  rw [bitAt, show (0 + (8 * j + i)) / 8 = j by omega, show (0 + (8 * j + i)) % 8 = i by omega, List.getD_eq_getElem?_getD]
theorem bitsAt_add (s : ByteArray) (a m : Nat) : bitsAt s 0 (a + m) = bitsAt s 0 a ++ bitsAt s a m := by
  simp [bitsAt, List.range_add, List.map_map, Function.comp_def]

end Go.Proofs.Ytpdebandcmhbcaa
