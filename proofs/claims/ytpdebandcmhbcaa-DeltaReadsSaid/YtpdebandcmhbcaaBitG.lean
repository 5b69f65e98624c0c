/- The walks of bits.Reader: Read, Get, Left, Seek. -/
import Derived.Test.YtpdebandcmhbcaaMem
import Derived.Test.YtpdebandcmhbcaaBitP
import Derived.Test.YtpdebandcmhbcaaByt
import Derived.Laws.BitsAllLaws
import Derived.Deep.RegionLaw
import Derived.Deep.WholeRow
namespace Go.Proofs.Ytpdebandcmhbcaa
open Go.RowKit Bit
set_option linter.unusedVariables false

/-- The bit at place i of a text's bytes. -/
def bitAt (s : ByteArray) (i : Nat) : Bool := (s.toList.getD (i / 8) 0).toNat.testBit (7 - i % 8)
/-- So many bits of a text's bytes, of place at on. -/
def bitsAt (s : ByteArray) (at' many : Nat) : List Bool := (List.range many).map fun i => bitAt s (at' + i)
theorem bitsAt_zero (s : ByteArray) (k : Nat) : bitsAt s k 0 = [] := rfl
theorem bitsAt_succ (s : ByteArray) (k m : Nat) : bitsAt s k (m + 1) = bitsAt s k m ++ [bitAt s (k + m)] := by simp [bitsAt, List.range_succ]
theorem bitsAt_length (s : ByteArray) (k m : Nat) : (bitsAt s k m).length = m := by simp [bitsAt]

theorem bitAt_get (s : ByteArray) (a : Nat) (h : a / 8 < s.size) : bitAt s a = s[a / 8].toNat.testBit (7 - a % 8) := by
  have hl : a / 8 < s.toList.length := by rw [size_list]; exact h
  have he : s.toList[a / 8] = s[a / 8] := by simp [Lib.toList_data]; rfl
  rw [bitAt, List.getD_eq_getElem?_getD, List.getElem?_eq_getElem hl, Option.getD_some, he]
theorem and_val (y : UInt8) (k : Nat) : bits BinOp.and IntKind.u8 ((y.toNat : Int) / 2 ^ k) 1 = ((y.toNat.testBit k).toNat : Int) := by
  have h2 : ((2 : Int) ^ k) = ((2 ^ k : Nat) : Int) := by simp
  have hy := y.toNat_lt
  have h3 := u8_and_nat (y.toNat / 2 ^ k) 1 (Nat.lt_of_le_of_lt (Nat.div_le_self _ _) (by omega)) (by decide)
  rw [h2, ← Int.natCast_ediv]
  refine h3.trans ?_
  rw [nat_mask1, Nat.testBit_eq_decide_div_mod_eq]
  rcases Nat.mod_two_eq_zero_or_one (y.toNat / 2 ^ k) with h | h <;> rw [h] <;> rfl
theorem get_val (x : Nat) (y : UInt8) (k : Nat) (hx : x < 9223372036854775808) :
    bits BinOp.or IntKind.u64 ((x : Int) * 2) (IntKind.u64.wrap (bits BinOp.and IntKind.u8 ((y.toNat : Int) / 2 ^ k) 1)) = ((2 * x + (y.toNat.testBit k).toNat : Nat) : Int) := by
  have hb : (y.toNat.testBit k).toNat ≤ 1 := by cases y.toNat.testBit k <;> simp
  rw [and_val]
  generalize (y.toNat.testBit k).toNat = b at *
  have h1 : (x : Int) * 2 = ((2 * x : Nat) : Int) := by omega
  have h2 : IntKind.u64.wrap (b : Int) = ((b : Nat) : Int) := by simp only [IntKind.wrap, IntKind.bits, IntKind.signed]; simp; omega
  rw [h1, h2, u64_or_nat _ _ (by omega) (by omega), nat_join 1 (2 * x) b (by omega) (by omega)]

/-- A reader at block g: the text, how many of its bits, where it stands. -/
def Rdr (w : World) (g : Nat) (s : ByteArray) (n k : Nat) : Prop := w.heap[g]? = some (.cells #[.string s, .int .i64 (n : Int), .int .i64 (k : Int), .bool true] 77 (0, 0))

theorem Rdr.chg {B g : Nat} {S : List TypeId} {w w' : World} {s : ByteArray} {n k : Nat} (h : Rdr w g s n k) (hc : Chg B S w w') (hS : 77 ∉ S) : Rdr w' g s n k := hc.heap_type h hS
theorem Rdr.low {B g : Nat} {S : List TypeId} {w w' : World} {s : ByteArray} {n k : Nat} (h : Rdr w g s n k) (hc : Chg B S w w') (hS : g < B) : Rdr w' g s n k := hc.heap_low h hS

theorem read_ok (s : ByteArray) (n : Nat) (w : World) (hn : n ≤ 8 * s.size) (hs : s.size ≤ 4294967296) :
    Calls Try.prog 21 #[.string s, .int .i64 n] w fun e w' => e = .returned (.tuple #[.pointer (some ⟨w.heap.size, 0, none⟩), .int .i64 0]) ∧ Rdr w' w.heap.size s n 0 ∧ Ext w w' := by
  have hn' : (n : Int) ≤ 8 * (s.size : Int) := by omega
  have hn0 : (0 : Int) ≤ (n : Int) := by omega
  go_enter Try.func21, Try.ntmps21
  go_wp2_with fail
  go_ret2
  exact ⟨rfl, heap_alloc_last w _, Ext.alloc _ _⟩

theorem read_bad (s : ByteArray) (n : Int) (w : World) (h1 : -9223372036854775808 ≤ n) (h2 : n ≤ 9223372036854775807) (hn : n < 0 ∨ 8 * (s.size : Int) < n) (hs : s.size ≤ 4294967296) :
    Calls Try.prog 21 #[.string s, .int .i64 n] w fun e w' => e = .returned (.tuple #[.pointer none, .int .i64 1]) ∧ w = w' := by
  rcases hn with hn | hn
  all_goals
    go_enter Try.func21, Try.ntmps21
    go_wp2_with fail
    go_ret2
    exact ⟨rfl, rfl⟩

theorem left_any (g : Nat) (s : ByteArray) (n k : Nat) (w : World) (h : Rdr w g s n k) (hk : k ≤ n) (hn : n ≤ 34359738368) :
    Calls Try.prog 27 #[.pointer (some ⟨g, 0, none⟩)] w fun e w' => e = .returned (.int .i64 ((n : Int) - k)) ∧ ∃ q, w' = w.drewN q := by
  have c1 : w.cell? ⟨g, 1, none⟩ = some (.int .i64 (n : Int)) := heap_cell h 1
  have c2 : w.cell? ⟨g, 2, none⟩ = some (.int .i64 (k : Int)) := heap_cell h 2
  clear h
  have hk' : (k : Int) ≤ (n : Int) := by omega
  have hk0 : (0 : Int) ≤ (k : Int) := by omega
  have hn' : (n : Int) ≤ 34359738368 := by omega
  go_enter Try.func27, Try.ntmps27
  go_wp2_with fail
  go_quiet (fail)
  go_wp2_with fail
  go_ret
  exact ⟨rfl, _, rfl⟩
theorem left_nil (w : World) : Calls Try.prog 27 #[.pointer none] w fun e w' => e = .returned (.int .i64 0) ∧ w = w' := by
  go_enter Try.func27, Try.ntmps27
  go_wp2_with fail
  go_ret
  exact ⟨rfl, rfl⟩

theorem seek_ok (B g : Nat) (s : ByteArray) (n k j : Nat) (w : World) (h : Rdr w g s n k) (hj : j ≤ n) (hn : n ≤ 34359738368) (hB : B ≤ g) :
    Calls Try.prog 47 #[.pointer (some ⟨g, 0, none⟩), .int .i64 j] w fun e w' => e = .returned (.int .i64 0) ∧ Rdr w' g s n j ∧ Chg B [77] w w' := by
  have c1 : w.cell? ⟨g, 1, none⟩ = some (.int .i64 (n : Int)) := heap_cell h 1
  have c2 : w.cell? ⟨g, 2, none⟩ = some (.int .i64 (k : Int)) := heap_cell h 2
  have c3 : w.cell? ⟨g, 3, none⟩ = some (.bool true) := heap_cell h 3
  have f2 := heap_frozen h 2
  have HH := Lib.hid h
  clear h
  have hj' : (j : Int) ≤ (n : Int) := by omega
  have hj0 : (0 : Int) ≤ (j : Int) := by omega
  go_enter Try.func47, Try.ntmps47
  go_wp2_with fail
  go_ret
  refine ⟨rfl, ?_, Chg.store _ HH.out (by simp) hB⟩
  exact (heap_setCell_same _ g 2 _ _ _ HH.out)
theorem seek_bad (g : Nat) (s : ByteArray) (n k : Nat) (j : Int) (w : World) (h : Rdr w g s n k) (hj : j < 0 ∨ (n : Int) < j) (h1 : -9223372036854775808 ≤ j) (h2 : j ≤ 9223372036854775807) :
    Calls Try.prog 47 #[.pointer (some ⟨g, 0, none⟩), .int .i64 j] w fun e w' => e = .returned (.int .i64 1) ∧ w = w' := by
  have c1 : w.cell? ⟨g, 1, none⟩ = some (.int .i64 (n : Int)) := heap_cell h 1
  have c3 : w.cell? ⟨g, 3, none⟩ = some (.bool true) := heap_cell h 3
  clear h
  have hn0 : (0 : Int) ≤ (n : Int) := by omega
  rcases hj with hj | hj
  · have hj2 : j < 0 := hj
    go_enter Try.func47, Try.ntmps47
    go_wp2_with fail
    go_ret
    exact ⟨rfl, rfl⟩
  · have hj2 : 0 ≤ j := by omega
    go_enter Try.func47, Try.ntmps47
    go_wp2_with fail
    go_ret
    exact ⟨rfl, rfl⟩
theorem seek_nil (j : Int) (w : World) : Calls Try.prog 47 #[.pointer none, .int .i64 j] w fun e w' => e = .returned (.int .i64 11) ∧ w = w' := by
  go_enter Try.func47, Try.ntmps47
  go_wp2_with fail
  go_ret
  exact ⟨rfl, rfl⟩
theorem seek_zero (g : Nat) (j : Int) (w : World) (c3 : w.cell? ⟨g, 3, none⟩ = some (.bool false)) : Calls Try.prog 47 #[.pointer (some ⟨g, 0, none⟩), .int .i64 j] w fun e w' => e = .returned (.int .i64 11) ∧ w = w' := by
  go_enter Try.func47, Try.ntmps47
  go_wp2_with fail
  go_ret
  exact ⟨rfl, rfl⟩

theorem get_nil (j : Int) (w : World) : Calls Try.prog 42 #[.pointer none, .int .i64 j] w fun e w' => e = .returned (.tuple #[.int .u64 0, .int .i64 11]) ∧ w = w' := by
  go_enter Try.func42, Try.ntmps42
  go_wp2_with fail
  go_ret2
  exact ⟨rfl, rfl⟩
theorem get_zero (g : Nat) (j : Int) (w : World) (c3 : w.cell? ⟨g, 3, none⟩ = some (.bool false)) : Calls Try.prog 42 #[.pointer (some ⟨g, 0, none⟩), .int .i64 j] w fun e w' => e = .returned (.tuple #[.int .u64 0, .int .i64 11]) ∧ w = w' := by
  go_enter Try.func42, Try.ntmps42
  go_wp2_with fail
  go_ret2
  exact ⟨rfl, rfl⟩
theorem get_bad (g : Nat) (j : Int) (w : World) (c3 : w.cell? ⟨g, 3, none⟩ = some (.bool true)) (hj : j < 0 ∨ 64 < j) : Calls Try.prog 42 #[.pointer (some ⟨g, 0, none⟩), .int .i64 j] w fun e w' => e = .returned (.tuple #[.int .u64 0, .int .i64 1]) ∧ w = w' := by
  rcases hj with hj | hj
  · have hj2 : j < 0 := hj
    go_enter Try.func42, Try.ntmps42
    go_wp2_with fail
    go_ret2
    exact ⟨rfl, rfl⟩
  · have hj2 : 0 ≤ j := by omega
    go_enter Try.func42, Try.ntmps42
    go_wp2_with fail
    go_ret2
    exact ⟨rfl, rfl⟩
theorem get_short (g : Nat) (s : ByteArray) (n k m : Nat) (w : World) (h : Rdr w g s n k) (hk : k ≤ n) (hn : n ≤ 34359738368) (hm : m ≤ 64) (hs : n < k + m) :
    Calls Try.prog 42 #[.pointer (some ⟨g, 0, none⟩), .int .i64 m] w fun e w' => e = .returned (.tuple #[.int .u64 0, .int .i64 3]) ∧ ∃ q, w' = w.drewN q := by
  have c3 : w.cell? ⟨g, 3, none⟩ = some (.bool true) := heap_cell h 3
  have hm0 : (0 : Int) ≤ (m : Int) := by omega
  have hm1 : (m : Int) ≤ 64 := by omega
  have hs' : (n : Int) - k < (m : Int) := by omega
  have HL := Lib.hid (left_any g s n k w h hk hn)
  clear h
  go_enter Try.func42, Try.ntmps42
  go_wp2_with fail
  refine HL.out.mono ?_
  rintro e w1 ⟨rfl, q, rfl⟩
  go_wp2_with fail
  go_ret2
  exact ⟨rfl, q, rfl⟩

theorem get_ok (B g : Nat) (s : ByteArray) (n k m : Nat) (w : World) (h : Rdr w g s n k) (hn : n ≤ 8 * s.size) (hs : s.size ≤ 4294967296) (hm : m ≤ 64) (hkm : k + m ≤ n) (hB : B ≤ g) :
    Calls Try.prog 42 #[.pointer (some ⟨g, 0, none⟩), .int .i64 m] w fun e w' => e = .returned (.tuple #[.int .u64 ((num (bitsAt s k m) : Nat) : Int), .int .i64 0]) ∧ Rdr w' g s n (k + m) ∧ Chg B [77] w w' := by
  have c3 : w.cell? ⟨g, 3, none⟩ = some (.bool true) := heap_cell h 3
  have hm0 : (0 : Int) ≤ (m : Int) := by omega
  have hm1 : (m : Int) ≤ 64 := by omega
  have hs' : (m : Int) ≤ (n : Int) - k := by omega
  have HL := Lib.hid (left_any g s n k w h (by omega) (by omega))
  have HH := Lib.hid h
  clear h
  go_enter Try.func42, Try.ntmps42
  go_wp2_with fail
  refine HL.out.mono ?_
  rintro e w1 ⟨rfl, q, rfl⟩
  go_wp2_with fail
  go_loopw [6, 31] (fun u i wr => ∃ j : Nat, j ≤ m ∧ i = .int .i64 (j : Int) ∧ u = .int .u64 ((num (bitsAt s k j) : Nat) : Int) ∧ Rdr wr g s n (k + j) ∧ Chg B [77] w wr) (fun _ i _ => m - (intOf i).toNat)
  case atStart => exact ⟨0, by omega, rfl, rfl, HH.out, (Chg.refl _ _ _).drewN q⟩
  case round =>
    obtain ⟨j, hj, rfl, rfl, hr, hchg⟩ := hrel
    by_cases h1 : j < m
    · have d0 : wr.cell? ⟨g, 0, none⟩ = some (.string s) := heap_cell hr 0
      have d2 : wr.cell? ⟨g, 2, none⟩ = some (.int .i64 ((k + j : Nat) : Int)) := heap_cell hr 2
      have f2 := heap_frozen hr 2
      have HR := Lib.hid hr
      have HC := Lib.hid hchg
      clear hr hchg
      have hlen := bitsAt_length s k j
      generalize hb : bitsAt s k j = b at *
      have hnb := num_lt b
      have HB := Lib.hid hb
      have HLN := Lib.hid hlen
      clear hb hlen
      generalize hx : num b = x at *
      have HX := Lib.hid hx
      clear hx
      generalize ha : k + j = a at *
      have han : a < n := by omega
      have hx63 : x < 9223372036854775808 := by
        rw [HLN.out] at hnb
        have : 2 ^ j ≤ 2 ^ 63 := Nat.pow_le_pow_right (by omega) (by omega)
        have h3 : (2 : Nat) ^ 63 = 9223372036854775808 := rfl
        omega
      clear hnb
      have HA := Lib.hid ha
      clear ha
      have hidx : a / 8 < s.size := by omega
      have ha1 : a ≤ 34359738368 := by omega
      have hidx1 : (a : Int) / 8 < (s.size : Int) := by omega
      have hidx0 : (0 : Int) ≤ (a : Int) / 8 := by omega
      go_wp2_with fail
      go_quiet (fail)
      go_wp2_with fail
      rw [get_val x s[a / 8] (7 - a % 8) hx63]
      refine ⟨⟨j + 1, by omega, by go_num, ?_, ?_, ?_⟩, ?_⟩
      · rw [bitsAt_succ, HB.out, num_snoc, HX.out, HA.out, bitAt_get s a hidx]
      · rw [show k + (j + 1) = a + 1 by have := HA.out; omega]
        exact heap_setCell_same (wr.drewN nq) g 2 _ _ _ HR.out
      · exact HC.out.trans ((Chg.refl B _ wr).drewN nq |>.trans (Chg.store (w := wr.drewN nq) _ HR.out (by simp) hB))
      · simp [intOf]; omega
    · obtain rfl : j = m := by omega
      go_wp2_with fail
      go_ret2
      exact ⟨rfl, hr, hchg⟩
end Go.Proofs.Ytpdebandcmhbcaa
