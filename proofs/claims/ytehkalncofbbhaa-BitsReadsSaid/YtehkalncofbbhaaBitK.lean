/- known: what must come of fixed calls. -/
import Derived.Test.YtehkalncofbbhaaBitV
import Derived.Test.YtehkalncofbbhaaBitG
import Derived.Test.YtehkalncofbbhaaBitZ
namespace Go.Proofs.Ytehkalncofbbhaa
open Go.RowKit Bit
set_option linter.unusedVariables false

section
variable {B g : Nat} {l : List Bool} {w w' : World}
theorem Wr.chg {S : List TypeId} (h : Wr B w g l) (hc : Chg B S w w') (h1 : 26 ∉ S) (h2 : 5 ∉ S) : Wr B w' g l := by
  obtain ⟨bv, bs, hg, hB, ho, hp⟩ := h
  exact ⟨bv, bs, hc.heap_type hg h1, hB, own_chg ho hc h2, hp⟩
theorem Wr.ext (h : Wr B w g l) (hc : Ext w w') : Wr B w' g l := h.chg (S := []) (Chg.of_ext hc) (by simp) (by simp)
theorem Rdr.ext {s : ByteArray} {n k : Nat} (h : Rdr w g s n k) (hc : Ext w w') : Rdr w' g s n k := h.chg (S := []) (Chg.of_ext (B := 0) hc) (by simp)
theorem Wr.new (w : World) (B : Nat) (hB : B ≤ w.heap.size) : Wr B (w.alloc (.cells #[.slice none 0 0, .int .i64 0] 26)) w.heap.size [] :=
  ⟨_, [], heap_alloc_last w _, hB, World.ownsRow_nil _ _ _ _, Packed.nil⟩
theorem Rdr.put {S : List TypeId} {s : ByteArray} {n k : Nat} (h : Rdr w g s n k) (hc : Chg B S w w') (h1 : 55 ∉ S) : Rdr w' g s n k := h.chg hc h1
end
theorem ext_drew {w w' : World} (h : ∃ q, w' = w.drewN q) : Ext w w' := by
  obtain ⟨q, rfl⟩ := h
  exact Ext.drewN q _
theorem packed_of {l : List Bool} {bs : List UInt8} (h : bs.length = (l.length + 7) / 8 ∧ ∀ j, j < bs.length → ∀ i, i < 8 → (bs.getD j 0).toNat.testBit (7 - i) = l.getD (8 * j + i) false) : Packed l bs :=
  ⟨h.1, fun j i hj hi => h.2 j hj i hi⟩
theorem known_packed : Packed (([] ++ bitsOf 5 3) ++ bitsOf 1 2) [168] := packed_of (by decide +kernel)
theorem known_num1 : num (bitsAt ⟨#[168]⟩ 0 3) = 5 := by decide +kernel
theorem known_num2 : num (bitsAt ⟨#[168]⟩ 3 2) = 1 := by decide +kernel

set_option maxHeartbeats 4000000 in
theorem known_any (w : World) : Calls Try.prog 17 #[] w fun e w' => e = .returned (.bool true) ∧ Ext w w' := by
  go_enter Try.func17, Try.ntmps17
  go_wp2_with fail
  have hc0 : Chg w.heap.size [26, 5, 55] w (w.alloc (.cells #[.slice none 0 0, .int .i64 0] 26)) := (Chg.refl _ _ w).alloc _
  have hw0 := Wr.new w w.heap.size (Nat.le_refl _)
  generalize w.alloc (.cells #[.slice none 0 0, .int .i64 0] 26) = v0 at *
  have HW0 := Lib.hid hw0
  have HC0 := Lib.hid hc0
  clear hw0 hc0
  refine (put_ok w.heap.size w.heap.size [] 5 3 v0 HW0.out (by decide) (by decide) (by decide) HC0.out.size).mono ?_
  rintro e v1 ⟨rfl, hw1, hc1⟩
  have HW1 := Lib.hid hw1
  have HC1 := Lib.hid (HC0.out.trans (hc1.mono (by simp)))
  clear hw1 hc1
  go_wp2_with fail
  refine (put_ok w.heap.size w.heap.size _ 1 2 v1 HW1.out (by decide) (by decide) (by decide) HC1.out.size).mono ?_
  rintro e v2 ⟨rfl, hw2, hc2⟩
  have HW2 := Lib.hid hw2
  have HC2 := Lib.hid (HC1.out.trans (hc2.mono (by simp)))
  clear hw2 hc2
  go_wp2_with fail
  refine (put_bad ⟨w.heap.size, 0, none⟩ 2 1 v2 (by decide) (by decide) (by decide) (by decide)).mono ?_
  rintro e v3 ⟨rfl, rfl⟩
  go_wp2_with fail
  refine (wbytes_any _ _ _ v2 HW2.out (by decide)).mono ?_
  rintro e v3 ⟨s, rfl, hs, rfl⟩
  obtain rfl : s = ⟨#[168]⟩ := bytes_ext ((hs.uniq known_packed).trans (toList_mk [168]).symm)
  clear hs
  go_wp2_with fail
  refine (read_ok ⟨#[168]⟩ 5 v2 (by decide) (by decide)).mono ?_
  rintro e v3 ⟨rfl, hr3, hc3⟩
  generalize hgr : v2.heap.size = gr at *
  have hB : w.heap.size ≤ gr := by rw [← hgr]; exact HC2.out.size
  have HR3 := Lib.hid hr3
  have HC3 := Lib.hid (HC2.out.then hc3)
  have HW3 := Lib.hid (HW2.out.ext hc3)
  clear hr3 hc3 hgr
  go_wp2_with fail
  refine (read_bad ⟨#[97]⟩ 9 v3 (by decide) (by decide) (by decide) (by decide)).mono ?_
  rintro e v4 ⟨rfl, rfl⟩
  go_wp2_with fail
  refine (get_ok w.heap.size gr _ 5 0 3 v3 HR3.out (by decide) (by decide) (by decide) (by decide) hB).mono ?_
  rintro e v4 ⟨rfl, hr4, hc4⟩
  rw [known_num1]
  have HR4 := Lib.hid hr4
  have HC4 := Lib.hid (HC3.out.trans (hc4.mono (by simp)))
  have HW4 := Lib.hid (HW3.out.chg hc4 (by decide) (by decide))
  clear hr4 hc4
  go_wp2_with fail
  refine (left_any gr _ 5 _ v4 HR4.out (by decide) (by decide)).mono ?_
  rintro e v5 ⟨rfl, hx⟩
  replace hx := ext_drew hx
  have HR5 := Lib.hid (HR4.out.ext hx)
  have HC5 := Lib.hid (HC4.out.then hx)
  have HW5 := Lib.hid (HW4.out.ext hx)
  clear hx
  go_wp2_with fail
  refine (get_short gr _ 5 3 3 v5 HR5.out (by decide) (by decide) (by decide) (by decide)).mono ?_
  rintro e v6 ⟨rfl, hx⟩
  replace hx := ext_drew hx
  have HR6 := Lib.hid (HR5.out.ext hx)
  have HC6 := Lib.hid (HC5.out.then hx)
  have HW6 := Lib.hid (HW5.out.ext hx)
  clear hx
  go_wp2_with fail
  refine (seek_ok w.heap.size gr _ 5 3 3 v6 HR6.out (by decide) (by decide) hB).mono ?_
  rintro e v7 ⟨rfl, hr5, hc5⟩
  have HR7 := Lib.hid hr5
  have HC7 := Lib.hid (HC6.out.trans (hc5.mono (by simp)))
  have HW7 := Lib.hid (HW6.out.chg hc5 (by decide) (by decide))
  clear hr5 hc5
  go_wp2_with fail
  refine (get_ok w.heap.size gr _ 5 3 2 v7 HR7.out (by decide) (by decide) (by decide) (by decide) hB).mono ?_
  rintro e v8 ⟨rfl, hr6, hc6⟩
  rw [known_num2]
  have HR8 := Lib.hid hr6
  have HC8 := Lib.hid (HC7.out.trans (hc6.mono (by simp)))
  have HW8 := Lib.hid (HW7.out.chg hc6 (by decide) (by decide))
  clear hr6 hc6
  go_wp2_with fail
  refine (len_any _ _ _ v8 HW8.out).mono ?_
  rintro e _ ⟨rfl, rfl⟩
  go_wp2_with fail
  refine (wbytes_any _ _ _ v8 HW8.out (by decide)).mono ?_
  rintro e _ ⟨s, rfl, hs, rfl⟩
  obtain rfl : s = ⟨#[168]⟩ := bytes_ext ((hs.uniq known_packed).trans (toList_mk [168]).symm)
  clear hs
  go_wp2_with fail
  refine (seek_bad gr _ 5 5 6 v8 HR8.out (by decide) (by decide) (by decide)).mono ?_
  rintro e _ ⟨rfl, rfl⟩
  go_wp2_with fail
  refine (zig_any (-1) v8 (by decide) (by decide)).mono ?_
  rintro e _ ⟨rfl, rfl⟩
  rw [show zigN (-1) = 1 by decide]
  go_wp2_with fail
  refine (zig_any 2 v8 (by decide) (by decide)).mono ?_
  rintro e _ ⟨rfl, rfl⟩
  rw [show zigN 2 = 4 by decide]
  go_wp2_with fail
  refine (zag_any 3 v8 (by decide)).mono ?_
  rintro e _ ⟨rfl, rfl⟩
  rw [show zagN 3 = -2 by decide]
  go_wp2_with fail
  go_ret
  exact ⟨rfl, HC8.out.to_ext (Nat.le_refl _)⟩
end Go.Proofs.Ytehkalncofbbhaa
