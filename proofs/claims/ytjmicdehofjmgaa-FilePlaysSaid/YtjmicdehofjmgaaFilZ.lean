/- The statements FileRenames, FileOthers, walked. -/
import Derived.Test.YtjmicdehofjmgaaFilY
namespace Go.Proofs.Ytjmicdehofjmgaa
open Go.RowKit Go.Lib Fil
set_option linter.unusedVariables false

theorem cutS_list (a : ByteArray) (n : Nat) : (cutS a n).toList = a.toList.take n := toList_mk _
theorem app_cut (a c : ByteArray) (n : Nat) : cutS (a ++ c) (a.size + n) = a ++ cutS c n := by
  apply bytes_ext
  rw [cutS_list, toList_append2, toList_append2, cutS_list, show a.size + n = a.toList.length + n by rw [size_list], List.take_length_add_append]

theorem other_some {w0 w : World} {g : Nat} {s o : ByteArray} {n k : Nat} {old : Option (ByteArray × Nat)} (h : F1 w0 w g ⟨s, n, some (o, k), old⟩) :
    Calls Try.prog 14 #[.pointer (some ⟨g, 0, none⟩)] w fun e w' => e = .returned (.tuple #[.string o, .int .i64 (k : Int), .bool true]) ∧ Ext w w' := h.other

set_option maxHeartbeats 8000000 in
set_option maxRecDepth 100000 in
theorem fileRenames_any (a b : ByteArray) (x0 x1 x2 : Int) (renamed : Bool) (w : World) (h1 : a.size ≤ 9223372036854775807) (h2 : b.size ≤ 9223372036854775807)
    (n1 : -9223372036854775808 ≤ x0) (n2 : x0 ≤ 9223372036854775807) (n3 : -9223372036854775808 ≤ x1) (n4 : x1 ≤ 9223372036854775807) (n5 : -9223372036854775808 ≤ x2) (n6 : x2 ≤ 9223372036854775807) :
    Calls Try.prog 5 #[.agg #[.string a, .string b], .agg #[.int .i64 x0, .int .i64 x1, .int .i64 x2], .bool renamed] w fun e w' => e = .returned (.bool true) ∧ Ext w w' := by
  by_cases ha : 300 < a.size
  · have haI : (300 : Int) < (a.size : Int) := by omega
    go_enter Try.func5, Try.ntmps5
    go_wp2_with fail
    generalize hwb : (w.alloc (.cells #[.string a, .string b] 43)).alloc (.cells #[.int .i64 x0, .int .i64 x1, .int .i64 x2] 44) = wb
    have hxb : Ext w wb := by rw [← hwb]; exact (Ext.alloc w _).trans (Ext.alloc _ _)
    have hb1 : wb.heap[w.heap.size]? = some (.cells #[.string a, .string b] 43 (0, 0)) := by rw [← hwb]; exact (Kp.of_ext (L := []) (Ext.alloc _ _)).heap (heap_alloc_new w _) (by simp)
    have hb2 : wb.heap[w.heap.size + 1]? = some (.cells #[.int .i64 x0, .int .i64 x1, .int .i64 x2] 44 (0, 0)) := by
      have := heap_alloc_new (w.alloc (.cells #[.string a, .string b] 43)) (.cells #[.int .i64 x0, .int .i64 x1, .int .i64 x2] 44)
      rw [hwb] at this
      simpa using this
    have c0 : wb.cell? ⟨w.heap.size, 0, none⟩ = some (.string a) := heap_cell hb1 0
    have c1 : wb.cell? ⟨w.heap.size, 1, none⟩ = some (.string b) := heap_cell hb1 1
    have k0 : wb.cell? ⟨w.heap.size + 1, 0, none⟩ = some (.int .i64 x0) := heap_cell hb2 0
    have k1 : wb.cell? ⟨w.heap.size + 1, 1, none⟩ = some (.int .i64 x1) := heap_cell hb2 1
    have k2 : wb.cell? ⟨w.heap.size + 1, 2, none⟩ = some (.int .i64 x2) := heap_cell hb2 2
    have HB := Lib.hid (And.intro c0 (And.intro c1 (And.intro k0 (And.intro k1 k2))))
    have HXB := Lib.hid hxb
    clear hwb hxb hb1 hb2
    go_wp2_with fail
    refine (new_own wb wb (Ext.refl _)).mono ?_
    rintro e v0 ⟨g, rfl, h0, _⟩
    have H0 := Lib.hid h0
    clear h0
    clear c0 c1 k0 k1 k2
    have c0 := (H0.out.ext).cell HB.out.1
    have c1 := (H0.out.ext).cell HB.out.2.1
    have k0 := (H0.out.ext).cell HB.out.2.2.1
    have k1 := (H0.out.ext).cell HB.out.2.2.2.1
    have k2 := (H0.out.ext).cell HB.out.2.2.2.2
    go_wp2_with fail
    refine (known_any _).mono ?_
    rintro e v9 ⟨rfl, hx9⟩
    go_wp2_with fail
    go_ret
    exact ⟨rfl, (HXB.out.trans H0.out.ext).trans hx9⟩
  have haI : (a.size : Int) ≤ 300 := by omega
  by_cases hb : 300 < b.size
  · have hbI : (300 : Int) < (b.size : Int) := by omega
    go_enter Try.func5, Try.ntmps5
    go_wp2_with fail
    generalize hwb : (w.alloc (.cells #[.string a, .string b] 43)).alloc (.cells #[.int .i64 x0, .int .i64 x1, .int .i64 x2] 44) = wb
    have hxb : Ext w wb := by rw [← hwb]; exact (Ext.alloc w _).trans (Ext.alloc _ _)
    have hb1 : wb.heap[w.heap.size]? = some (.cells #[.string a, .string b] 43 (0, 0)) := by rw [← hwb]; exact (Kp.of_ext (L := []) (Ext.alloc _ _)).heap (heap_alloc_new w _) (by simp)
    have hb2 : wb.heap[w.heap.size + 1]? = some (.cells #[.int .i64 x0, .int .i64 x1, .int .i64 x2] 44 (0, 0)) := by
      have := heap_alloc_new (w.alloc (.cells #[.string a, .string b] 43)) (.cells #[.int .i64 x0, .int .i64 x1, .int .i64 x2] 44)
      rw [hwb] at this
      simpa using this
    have c0 : wb.cell? ⟨w.heap.size, 0, none⟩ = some (.string a) := heap_cell hb1 0
    have c1 : wb.cell? ⟨w.heap.size, 1, none⟩ = some (.string b) := heap_cell hb1 1
    have k0 : wb.cell? ⟨w.heap.size + 1, 0, none⟩ = some (.int .i64 x0) := heap_cell hb2 0
    have k1 : wb.cell? ⟨w.heap.size + 1, 1, none⟩ = some (.int .i64 x1) := heap_cell hb2 1
    have k2 : wb.cell? ⟨w.heap.size + 1, 2, none⟩ = some (.int .i64 x2) := heap_cell hb2 2
    have HB := Lib.hid (And.intro c0 (And.intro c1 (And.intro k0 (And.intro k1 k2))))
    have HXB := Lib.hid hxb
    clear hwb hxb hb1 hb2
    go_wp2_with fail
    refine (new_own wb wb (Ext.refl _)).mono ?_
    rintro e v0 ⟨g, rfl, h0, _⟩
    have H0 := Lib.hid h0
    clear h0
    clear c0 c1 k0 k1 k2
    have c0 := (H0.out.ext).cell HB.out.1
    have c1 := (H0.out.ext).cell HB.out.2.1
    have k0 := (H0.out.ext).cell HB.out.2.2.1
    have k1 := (H0.out.ext).cell HB.out.2.2.2.1
    have k2 := (H0.out.ext).cell HB.out.2.2.2.2
    go_wp2_with fail
    refine (known_any _).mono ?_
    rintro e v9 ⟨rfl, hx9⟩
    go_wp2_with fail
    go_ret
    exact ⟨rfl, (HXB.out.trans H0.out.ext).trans hx9⟩
  have hbI : (b.size : Int) ≤ 300 := by omega
  by_cases hx0 : x0 < 0
  · go_enter Try.func5, Try.ntmps5
    go_wp2_with fail
    generalize hwb : (w.alloc (.cells #[.string a, .string b] 43)).alloc (.cells #[.int .i64 x0, .int .i64 x1, .int .i64 x2] 44) = wb
    have hxb : Ext w wb := by rw [← hwb]; exact (Ext.alloc w _).trans (Ext.alloc _ _)
    have hb1 : wb.heap[w.heap.size]? = some (.cells #[.string a, .string b] 43 (0, 0)) := by rw [← hwb]; exact (Kp.of_ext (L := []) (Ext.alloc _ _)).heap (heap_alloc_new w _) (by simp)
    have hb2 : wb.heap[w.heap.size + 1]? = some (.cells #[.int .i64 x0, .int .i64 x1, .int .i64 x2] 44 (0, 0)) := by
      have := heap_alloc_new (w.alloc (.cells #[.string a, .string b] 43)) (.cells #[.int .i64 x0, .int .i64 x1, .int .i64 x2] 44)
      rw [hwb] at this
      simpa using this
    have c0 : wb.cell? ⟨w.heap.size, 0, none⟩ = some (.string a) := heap_cell hb1 0
    have c1 : wb.cell? ⟨w.heap.size, 1, none⟩ = some (.string b) := heap_cell hb1 1
    have k0 : wb.cell? ⟨w.heap.size + 1, 0, none⟩ = some (.int .i64 x0) := heap_cell hb2 0
    have k1 : wb.cell? ⟨w.heap.size + 1, 1, none⟩ = some (.int .i64 x1) := heap_cell hb2 1
    have k2 : wb.cell? ⟨w.heap.size + 1, 2, none⟩ = some (.int .i64 x2) := heap_cell hb2 2
    have HB := Lib.hid (And.intro c0 (And.intro c1 (And.intro k0 (And.intro k1 k2))))
    have HXB := Lib.hid hxb
    clear hwb hxb hb1 hb2
    go_wp2_with fail
    refine (new_own wb wb (Ext.refl _)).mono ?_
    rintro e v0 ⟨g, rfl, h0, _⟩
    have H0 := Lib.hid h0
    clear h0
    clear c0 c1 k0 k1 k2
    have c0 := (H0.out.ext).cell HB.out.1
    have c1 := (H0.out.ext).cell HB.out.2.1
    have k0 := (H0.out.ext).cell HB.out.2.2.1
    have k1 := (H0.out.ext).cell HB.out.2.2.2.1
    have k2 := (H0.out.ext).cell HB.out.2.2.2.2
    go_wp2_with fail
    refine (known_any _).mono ?_
    rintro e v9 ⟨rfl, hx9⟩
    go_wp2_with fail
    go_ret
    exact ⟨rfl, (HXB.out.trans H0.out.ext).trans hx9⟩
  have hy0 : 0 ≤ x0 := by omega
  by_cases hx1 : x1 < 0
  · go_enter Try.func5, Try.ntmps5
    go_wp2_with fail
    generalize hwb : (w.alloc (.cells #[.string a, .string b] 43)).alloc (.cells #[.int .i64 x0, .int .i64 x1, .int .i64 x2] 44) = wb
    have hxb : Ext w wb := by rw [← hwb]; exact (Ext.alloc w _).trans (Ext.alloc _ _)
    have hb1 : wb.heap[w.heap.size]? = some (.cells #[.string a, .string b] 43 (0, 0)) := by rw [← hwb]; exact (Kp.of_ext (L := []) (Ext.alloc _ _)).heap (heap_alloc_new w _) (by simp)
    have hb2 : wb.heap[w.heap.size + 1]? = some (.cells #[.int .i64 x0, .int .i64 x1, .int .i64 x2] 44 (0, 0)) := by
      have := heap_alloc_new (w.alloc (.cells #[.string a, .string b] 43)) (.cells #[.int .i64 x0, .int .i64 x1, .int .i64 x2] 44)
      rw [hwb] at this
      simpa using this
    have c0 : wb.cell? ⟨w.heap.size, 0, none⟩ = some (.string a) := heap_cell hb1 0
    have c1 : wb.cell? ⟨w.heap.size, 1, none⟩ = some (.string b) := heap_cell hb1 1
    have k0 : wb.cell? ⟨w.heap.size + 1, 0, none⟩ = some (.int .i64 x0) := heap_cell hb2 0
    have k1 : wb.cell? ⟨w.heap.size + 1, 1, none⟩ = some (.int .i64 x1) := heap_cell hb2 1
    have k2 : wb.cell? ⟨w.heap.size + 1, 2, none⟩ = some (.int .i64 x2) := heap_cell hb2 2
    have HB := Lib.hid (And.intro c0 (And.intro c1 (And.intro k0 (And.intro k1 k2))))
    have HXB := Lib.hid hxb
    clear hwb hxb hb1 hb2
    go_wp2_with fail
    refine (new_own wb wb (Ext.refl _)).mono ?_
    rintro e v0 ⟨g, rfl, h0, _⟩
    have H0 := Lib.hid h0
    clear h0
    clear c0 c1 k0 k1 k2
    have c0 := (H0.out.ext).cell HB.out.1
    have c1 := (H0.out.ext).cell HB.out.2.1
    have k0 := (H0.out.ext).cell HB.out.2.2.1
    have k1 := (H0.out.ext).cell HB.out.2.2.2.1
    have k2 := (H0.out.ext).cell HB.out.2.2.2.2
    go_wp2_with fail
    refine (known_any _).mono ?_
    rintro e v9 ⟨rfl, hx9⟩
    go_wp2_with fail
    go_ret
    exact ⟨rfl, (HXB.out.trans H0.out.ext).trans hx9⟩
  have hy1 : 0 ≤ x1 := by omega
  by_cases hx2 : x2 < 0
  · go_enter Try.func5, Try.ntmps5
    go_wp2_with fail
    generalize hwb : (w.alloc (.cells #[.string a, .string b] 43)).alloc (.cells #[.int .i64 x0, .int .i64 x1, .int .i64 x2] 44) = wb
    have hxb : Ext w wb := by rw [← hwb]; exact (Ext.alloc w _).trans (Ext.alloc _ _)
    have hb1 : wb.heap[w.heap.size]? = some (.cells #[.string a, .string b] 43 (0, 0)) := by rw [← hwb]; exact (Kp.of_ext (L := []) (Ext.alloc _ _)).heap (heap_alloc_new w _) (by simp)
    have hb2 : wb.heap[w.heap.size + 1]? = some (.cells #[.int .i64 x0, .int .i64 x1, .int .i64 x2] 44 (0, 0)) := by
      have := heap_alloc_new (w.alloc (.cells #[.string a, .string b] 43)) (.cells #[.int .i64 x0, .int .i64 x1, .int .i64 x2] 44)
      rw [hwb] at this
      simpa using this
    have c0 : wb.cell? ⟨w.heap.size, 0, none⟩ = some (.string a) := heap_cell hb1 0
    have c1 : wb.cell? ⟨w.heap.size, 1, none⟩ = some (.string b) := heap_cell hb1 1
    have k0 : wb.cell? ⟨w.heap.size + 1, 0, none⟩ = some (.int .i64 x0) := heap_cell hb2 0
    have k1 : wb.cell? ⟨w.heap.size + 1, 1, none⟩ = some (.int .i64 x1) := heap_cell hb2 1
    have k2 : wb.cell? ⟨w.heap.size + 1, 2, none⟩ = some (.int .i64 x2) := heap_cell hb2 2
    have HB := Lib.hid (And.intro c0 (And.intro c1 (And.intro k0 (And.intro k1 k2))))
    have HXB := Lib.hid hxb
    clear hwb hxb hb1 hb2
    go_wp2_with fail
    refine (new_own wb wb (Ext.refl _)).mono ?_
    rintro e v0 ⟨g, rfl, h0, _⟩
    have H0 := Lib.hid h0
    clear h0
    clear c0 c1 k0 k1 k2
    have c0 := (H0.out.ext).cell HB.out.1
    have c1 := (H0.out.ext).cell HB.out.2.1
    have k0 := (H0.out.ext).cell HB.out.2.2.1
    have k1 := (H0.out.ext).cell HB.out.2.2.2.1
    have k2 := (H0.out.ext).cell HB.out.2.2.2.2
    go_wp2_with fail
    refine (known_any _).mono ?_
    rintro e v9 ⟨rfl, hx9⟩
    go_wp2_with fail
    go_ret
    exact ⟨rfl, (HXB.out.trans H0.out.ext).trans hx9⟩
  have hy2 : 0 ≤ x2 := by omega
  have hx : True := trivial
  clear hx0 hx1 hx2
  have K1 := Lib.hid (append_first a (by omega))
  have hat : (a ++ ⟨#[116, 97, 105, 108]⟩).size = a.size + 4 := app_size _ _
  have K3 := Lib.hid (append_mk (t := ⟨a, a.size, none, none⟩) (s := ⟨#[116, 97, 105, 108]⟩) (by show a.size + 4 ≤ _; omega))
  have k4 : layR ⟨a ++ ⟨#[116, 97, 105, 108]⟩, a.size, none, none⟩ b = (0, ⟨a ++ ⟨#[116, 97, 105, 108]⟩, a.size, some (b, 0), none⟩) := if_neg (by omega)
  have K4 := Lib.hid k4
  have hcc : ¬ (9223372036854775807 < a.size + (⟨#[116, 97, 105, 108]⟩ : ByteArray).size) := by show ¬ (9223372036854775807 < a.size + 4); omega
  obtain ⟨m, hm, hmin⟩ : ∃ m : Nat, min x0.toNat 4 = m ∧ (if (4 : Int) < x0 then (4 : Int) else x0) = (m : Int) := ⟨_, rfl, by split <;> omega⟩
  have hkb : ∀ x : Int, keptN b b.size x = b.size := fun x => by unfold keptN; omega
  have hcb : cutS b b.size = b := by
    apply bytes_ext
    rw [cutS, toList_mk, List.take_of_length_le (by rw [size_list]; exact Nat.le_refl _)]
  have hka : keptN (a ++ ⟨#[116, 97, 105, 108]⟩) a.size x0 = a.size + m := by unfold keptN; rw [hat]; omega
  have hca : cutS (a ++ ⟨#[116, 97, 105, 108]⟩) (a.size + m) = a ++ cutS ⟨#[116, 97, 105, 108]⟩ m := app_cut _ _ _
  have hms : (cutS ⟨#[116, 97, 105, 108]⟩ m).size = m := cutS_size _ _ (by show m ≤ 4; omega)
  have k8 : crashR ⟨b, b.size, none, some (a ++ ⟨#[116, 97, 105, 108]⟩, a.size)⟩ x0 x1 renamed = (0, if renamed then ⟨b, b.size, none, none⟩ else ⟨a ++ cutS ⟨#[116, 97, 105, 108]⟩ m, a.size + m, none, none⟩) := by
    unfold crashR
    rw [if_neg (by omega)]
    cases renamed
    · show (0, syncT ⟨cutS (a ++ ⟨#[116, 97, 105, 108]⟩) (keptN (a ++ ⟨#[116, 97, 105, 108]⟩) a.size x0), _, none, _⟩) = _
      rw [hka, hca]
      show (0, (⟨a ++ cutS ⟨#[116, 97, 105, 108]⟩ m, (a ++ cutS ⟨#[116, 97, 105, 108]⟩ m).size, none, none⟩ : St)) = _
      rw [app_size, hms]
      rfl
    · show (0, syncT ⟨cutS b (keptN b b.size x0), _, none, _⟩) = _
      rw [hkb, hcb]
      rfl
  have k9 : crashR ⟨b, b.size, none, none⟩ x0 x2 renamed = (0, ⟨b, b.size, none, none⟩) := by
    unfold crashR
    rw [if_neg (by omega)]
    show (0, syncT ⟨cutS b (keptN b b.size x0), _, none, _⟩) = _
    rw [hkb, hcb]
    rfl
  have K8 := Lib.hid k8
  have K9 := Lib.hid k9
  have hex := extract_cut ⟨#[116, 97, 105, 108]⟩ m
  have hm0 : (0 : Int) ≤ (m : Int) := by omega
  have hm4 : (m : Int) ≤ 4 := by omega
  have hcd : ¬ (9223372036854775807 < a.size + (cutS ⟨#[116, 97, 105, 108]⟩ m).size) := by omega
  clear k4 hat hm k8 k9 hkb hcb hka hca hms
  go_enter Try.func5, Try.ntmps5
  go_wp2_with fail
  generalize hwb : (w.alloc (.cells #[.string a, .string b] 43)).alloc (.cells #[.int .i64 x0, .int .i64 x1, .int .i64 x2] 44) = wb
  have hxb : Ext w wb := by rw [← hwb]; exact (Ext.alloc w _).trans (Ext.alloc _ _)
  have hb1 : wb.heap[w.heap.size]? = some (.cells #[.string a, .string b] 43 (0, 0)) := by rw [← hwb]; exact (Kp.of_ext (L := []) (Ext.alloc _ _)).heap (heap_alloc_new w _) (by simp)
  have hb2 : wb.heap[w.heap.size + 1]? = some (.cells #[.int .i64 x0, .int .i64 x1, .int .i64 x2] 44 (0, 0)) := by
    have := heap_alloc_new (w.alloc (.cells #[.string a, .string b] 43)) (.cells #[.int .i64 x0, .int .i64 x1, .int .i64 x2] 44)
    rw [hwb] at this
    simpa using this
  have c0 : wb.cell? ⟨w.heap.size, 0, none⟩ = some (.string a) := heap_cell hb1 0
  have c1 : wb.cell? ⟨w.heap.size, 1, none⟩ = some (.string b) := heap_cell hb1 1
  have k0 : wb.cell? ⟨w.heap.size + 1, 0, none⟩ = some (.int .i64 x0) := heap_cell hb2 0
  have k1 : wb.cell? ⟨w.heap.size + 1, 1, none⟩ = some (.int .i64 x1) := heap_cell hb2 1
  have k2 : wb.cell? ⟨w.heap.size + 1, 2, none⟩ = some (.int .i64 x2) := heap_cell hb2 2
  have HB := Lib.hid (And.intro c0 (And.intro c1 (And.intro k0 (And.intro k1 k2))))
  have HXB := Lib.hid hxb
  clear hwb hxb hb1 hb2
  go_wp2_with fail
  refine (new_own wb wb (Ext.refl _)).mono ?_
  rintro e v0 ⟨g, rfl, h0, _⟩
  have H0 := Lib.hid h0
  clear h0
  clear c0 c1 k0 k1 k2
  have c0 := (H0.out.ext).cell HB.out.1
  have c1 := (H0.out.ext).cell HB.out.2.1
  have k0 := (H0.out.ext).cell HB.out.2.2.1
  have k1 := (H0.out.ext).cell HB.out.2.2.2.1
  have k2 := (H0.out.ext).cell HB.out.2.2.2.2
  go_wp2_with fail
  refine (H0.out.did (fun L hf => append_did g L _ _ v0 hf H0.out.ok h1) K1.out (ok_of K1.out (H0.out.ok.append _))).mono ?_
  rintro e v1 ⟨rfl, h1⟩
  have H1 := Lib.hid h1
  clear h1
  go_wp2_with fail
  refine (H1.out.did (fun L hf => sync_any g L _ v1 hf) (show (0, syncT ⟨a, 0, none, none⟩) = (0, ⟨a, a.size, none, none⟩) from rfl) (ok_of (show (0, syncT ⟨a, 0, none, none⟩) = (0, ⟨a, a.size, none, none⟩) from rfl) H1.out.ok.sync)).mono ?_
  rintro e v2 ⟨rfl, h2⟩
  have H2 := Lib.hid h2
  clear h2
  go_wp2_with fail
  refine (H2.out.did (fun L hf => append_did g L _ _ v2 hf H2.out.ok (by decide)) K3.out (ok_of K3.out (H2.out.ok.append _))).mono ?_
  rintro e v3 ⟨rfl, h3⟩
  have H3 := Lib.hid h3
  clear h3
  go_wp2_with fail
  refine (H3.out.did (fun L hf => lay_did g L _ _ v3 hf h2) K4.out (ok_of K4.out (H3.out.ok.lay _))).mono ?_
  rintro e v4 ⟨rfl, h4⟩
  have H4 := Lib.hid h4
  clear h4
  go_wp2_with fail
  refine (H4.out.text).mono ?_
  rintro e _ ⟨rfl, rfl⟩
  go_wp2_with fail
  refine (H4.out.did (fun L hf => flush_any g L _ v4 hf) (show flushR ⟨a ++ ⟨#[116, 97, 105, 108]⟩, a.size, some (b, 0), none⟩ = (0, ⟨a ++ ⟨#[116, 97, 105, 108]⟩, a.size, some (b, b.size), none⟩) from rfl) (ok_of (show flushR ⟨a ++ ⟨#[116, 97, 105, 108]⟩, a.size, some (b, 0), none⟩ = (0, ⟨a ++ ⟨#[116, 97, 105, 108]⟩, a.size, some (b, b.size), none⟩) from rfl) H4.out.ok.flush)).mono ?_
  rintro e v5 ⟨rfl, h5⟩
  have H5 := Lib.hid h5
  clear h5
  go_wp2_with fail
  refine (H5.out.did (fun L hf => rename_any g L _ v5 hf) (show renameR ⟨a ++ ⟨#[116, 97, 105, 108]⟩, a.size, some (b, b.size), none⟩ = (0, ⟨b, b.size, none, some (a ++ ⟨#[116, 97, 105, 108]⟩, a.size)⟩) from rfl) (ok_of (show renameR ⟨a ++ ⟨#[116, 97, 105, 108]⟩, a.size, some (b, b.size), none⟩ = (0, ⟨b, b.size, none, some (a ++ ⟨#[116, 97, 105, 108]⟩, a.size)⟩) from rfl) H5.out.ok.rename)).mono ?_
  rintro e v6 ⟨rfl, h6⟩
  have H6 := Lib.hid h6
  clear h6
  go_wp2_with fail
  refine (H6.out.text).mono ?_
  rintro e _ ⟨rfl, rfl⟩
  go_wp2_with fail
  refine (H6.out.sure).mono ?_
  rintro e _ ⟨rfl, rfl⟩
  go_wp2_with fail
  refine (H6.out.copy).mono ?_
  rintro e v7 ⟨g2, rfl, h7⟩
  have H7 := Lib.hid h7
  clear h7
  go_wp2_with fail
  refine (H7.out.did2 (fun L hf => sync_any g2 L _ v7 hf) (show (0, syncT ⟨b, b.size, none, some (a ++ ⟨#[116, 97, 105, 108]⟩, a.size)⟩) = (0, ⟨b, b.size, none, none⟩) from rfl) H7.out.two.ok.sync).mono ?_
  rintro e v8 ⟨rfl, h8⟩
  have H8 := Lib.hid h8
  clear h8
  clear c0 c1 k0 k1 k2
  have c0 := (H8.out.ext).cell HB.out.1
  have c1 := (H8.out.ext).cell HB.out.2.1
  have k0 := (H8.out.ext).cell HB.out.2.2.1
  have k1 := (H8.out.ext).cell HB.out.2.2.2.1
  have k2 := (H8.out.ext).cell HB.out.2.2.2.2
  go_wp2_with fail
  refine (H8.out.did (fun L hf => crash_any g L _ _ _ _ v8 hf H8.out.one.ok n1 n2 n3 n4) K8.out (ok_of K8.out (H8.out.one.ok.crash _ _ _))).mono ?_
  rintro e v9 ⟨rfl, h9⟩
  have H9 := Lib.hid h9
  clear h9
  clear c0 c1 k0 k1 k2
  have c0 := (H9.out.ext).cell HB.out.1
  have c1 := (H9.out.ext).cell HB.out.2.1
  have k0 := (H9.out.ext).cell HB.out.2.2.1
  have k1 := (H9.out.ext).cell HB.out.2.2.2.1
  have k2 := (H9.out.ext).cell HB.out.2.2.2.2
  go_wp2_with fail
  refine (H9.out.did2 (fun L hf => crash_any g2 L _ _ _ _ v9 hf H9.out.two.ok n1 n2 n5 n6) K9.out (ok_of K9.out (H9.out.two.ok.crash _ _ _))).mono ?_
  rintro e v10 ⟨rfl, h10⟩
  clear c0 c1 k0 k1 k2
  have c0 := (h10.ext).cell HB.out.1
  have c1 := (h10.ext).cell HB.out.2.1
  have k0 := (h10.ext).cell HB.out.2.2.1
  have k1 := (h10.ext).cell HB.out.2.2.2.1
  have k2 := (h10.ext).cell HB.out.2.2.2.2
  cases renamed
  · rw [if_neg (by decide)] at h10
    have H10 := Lib.hid h10
    clear h10 H9 H8 H7 H6 H5 H4 H3 H2 H1 H0
    go_wp2_with fail
    refine (H10.out.one.text).mono ?_
    rintro e _ ⟨rfl, rfl⟩
    go_wp2_with fail
    refine (H10.out.two.text).mono ?_
    rintro e _ ⟨rfl, rfl⟩
    go_wp2_with fail
    refine (known_any _).mono ?_
    rintro e v9 ⟨rfl, hx9⟩
    go_wp2_with fail
    go_ret
    exact ⟨rfl, (HXB.out.trans H10.out.ext).trans hx9⟩
  · rw [if_pos rfl] at h10
    have H10 := Lib.hid h10
    clear h10 H9 H8 H7 H6 H5 H4 H3 H2 H1 H0
    go_wp2_with fail
    refine (H10.out.one.text).mono ?_
    rintro e _ ⟨rfl, rfl⟩
    go_wp2_with fail
    refine (H10.out.two.text).mono ?_
    rintro e _ ⟨rfl, rfl⟩
    go_wp2_with fail
    refine (known_any _).mono ?_
    rintro e v9 ⟨rfl, hx9⟩
    go_wp2_with fail
    go_ret
    exact ⟨rfl, (HXB.out.trans H10.out.ext).trans hx9⟩


set_option maxHeartbeats 8000000 in
set_option maxRecDepth 100000 in
theorem fileOthers_any (a b c : ByteArray) (x0 x1 : Int) (renamed : Bool) (w : World) (h1 : a.size ≤ 9223372036854775807) (h2 : b.size ≤ 9223372036854775807) (h3 : c.size ≤ 9223372036854775807)
    (n1 : -9223372036854775808 ≤ x0) (n2 : x0 ≤ 9223372036854775807) (n3 : -9223372036854775808 ≤ x1) (n4 : x1 ≤ 9223372036854775807) :
    Calls Try.prog 8 #[.agg #[.string a, .string b, .string c], .agg #[.int .i64 x0, .int .i64 x1], .bool renamed] w fun e w' => e = .returned (.bool true) ∧ Ext w w' := by
  by_cases ha : 300 < a.size
  · have haI : (300 : Int) < (a.size : Int) := by omega
    go_enter Try.func8, Try.ntmps8
    go_wp2_with fail
    generalize hwb : (w.alloc (.cells #[.string a, .string b, .string c] 48)).alloc (.cells #[.int .i64 x0, .int .i64 x1] 49) = wb
    have hxb : Ext w wb := by rw [← hwb]; exact (Ext.alloc w _).trans (Ext.alloc _ _)
    have hb1 : wb.heap[w.heap.size]? = some (.cells #[.string a, .string b, .string c] 48 (0, 0)) := by rw [← hwb]; exact (Kp.of_ext (L := []) (Ext.alloc _ _)).heap (heap_alloc_new w _) (by simp)
    have hb2 : wb.heap[w.heap.size + 1]? = some (.cells #[.int .i64 x0, .int .i64 x1] 49 (0, 0)) := by
      have := heap_alloc_new (w.alloc (.cells #[.string a, .string b, .string c] 48)) (.cells #[.int .i64 x0, .int .i64 x1] 49)
      rw [hwb] at this
      simpa using this
    have c0 : wb.cell? ⟨w.heap.size, 0, none⟩ = some (.string a) := heap_cell hb1 0
    have c1 : wb.cell? ⟨w.heap.size, 1, none⟩ = some (.string b) := heap_cell hb1 1
    have c2 : wb.cell? ⟨w.heap.size, 2, none⟩ = some (.string c) := heap_cell hb1 2
    have k0 : wb.cell? ⟨w.heap.size + 1, 0, none⟩ = some (.int .i64 x0) := heap_cell hb2 0
    have k1 : wb.cell? ⟨w.heap.size + 1, 1, none⟩ = some (.int .i64 x1) := heap_cell hb2 1
    have HB := Lib.hid (And.intro c0 (And.intro c1 (And.intro c2 (And.intro k0 k1))))
    have HXB := Lib.hid hxb
    clear hwb hxb hb1 hb2
    go_wp2_with fail
    refine (new_own wb wb (Ext.refl _)).mono ?_
    rintro e v0 ⟨g, rfl, h0, _⟩
    have H0 := Lib.hid h0
    clear h0
    clear c0 c1 c2 k0 k1
    have c0 := (H0.out.ext).cell HB.out.1
    have c1 := (H0.out.ext).cell HB.out.2.1
    have c2 := (H0.out.ext).cell HB.out.2.2.1
    have k0 := (H0.out.ext).cell HB.out.2.2.2.1
    have k1 := (H0.out.ext).cell HB.out.2.2.2.2
    go_wp2_with fail
    refine (known_any _).mono ?_
    rintro e v9 ⟨rfl, hx9⟩
    go_wp2_with fail
    go_ret
    exact ⟨rfl, (HXB.out.trans H0.out.ext).trans hx9⟩
  have haI : (a.size : Int) ≤ 300 := by omega
  by_cases hb : 300 < b.size
  · have hbI : (300 : Int) < (b.size : Int) := by omega
    go_enter Try.func8, Try.ntmps8
    go_wp2_with fail
    generalize hwb : (w.alloc (.cells #[.string a, .string b, .string c] 48)).alloc (.cells #[.int .i64 x0, .int .i64 x1] 49) = wb
    have hxb : Ext w wb := by rw [← hwb]; exact (Ext.alloc w _).trans (Ext.alloc _ _)
    have hb1 : wb.heap[w.heap.size]? = some (.cells #[.string a, .string b, .string c] 48 (0, 0)) := by rw [← hwb]; exact (Kp.of_ext (L := []) (Ext.alloc _ _)).heap (heap_alloc_new w _) (by simp)
    have hb2 : wb.heap[w.heap.size + 1]? = some (.cells #[.int .i64 x0, .int .i64 x1] 49 (0, 0)) := by
      have := heap_alloc_new (w.alloc (.cells #[.string a, .string b, .string c] 48)) (.cells #[.int .i64 x0, .int .i64 x1] 49)
      rw [hwb] at this
      simpa using this
    have c0 : wb.cell? ⟨w.heap.size, 0, none⟩ = some (.string a) := heap_cell hb1 0
    have c1 : wb.cell? ⟨w.heap.size, 1, none⟩ = some (.string b) := heap_cell hb1 1
    have c2 : wb.cell? ⟨w.heap.size, 2, none⟩ = some (.string c) := heap_cell hb1 2
    have k0 : wb.cell? ⟨w.heap.size + 1, 0, none⟩ = some (.int .i64 x0) := heap_cell hb2 0
    have k1 : wb.cell? ⟨w.heap.size + 1, 1, none⟩ = some (.int .i64 x1) := heap_cell hb2 1
    have HB := Lib.hid (And.intro c0 (And.intro c1 (And.intro c2 (And.intro k0 k1))))
    have HXB := Lib.hid hxb
    clear hwb hxb hb1 hb2
    go_wp2_with fail
    refine (new_own wb wb (Ext.refl _)).mono ?_
    rintro e v0 ⟨g, rfl, h0, _⟩
    have H0 := Lib.hid h0
    clear h0
    clear c0 c1 c2 k0 k1
    have c0 := (H0.out.ext).cell HB.out.1
    have c1 := (H0.out.ext).cell HB.out.2.1
    have c2 := (H0.out.ext).cell HB.out.2.2.1
    have k0 := (H0.out.ext).cell HB.out.2.2.2.1
    have k1 := (H0.out.ext).cell HB.out.2.2.2.2
    go_wp2_with fail
    refine (known_any _).mono ?_
    rintro e v9 ⟨rfl, hx9⟩
    go_wp2_with fail
    go_ret
    exact ⟨rfl, (HXB.out.trans H0.out.ext).trans hx9⟩
  have hbI : (b.size : Int) ≤ 300 := by omega
  by_cases hc : 300 < c.size
  · have hcI : (300 : Int) < (c.size : Int) := by omega
    go_enter Try.func8, Try.ntmps8
    go_wp2_with fail
    generalize hwb : (w.alloc (.cells #[.string a, .string b, .string c] 48)).alloc (.cells #[.int .i64 x0, .int .i64 x1] 49) = wb
    have hxb : Ext w wb := by rw [← hwb]; exact (Ext.alloc w _).trans (Ext.alloc _ _)
    have hb1 : wb.heap[w.heap.size]? = some (.cells #[.string a, .string b, .string c] 48 (0, 0)) := by rw [← hwb]; exact (Kp.of_ext (L := []) (Ext.alloc _ _)).heap (heap_alloc_new w _) (by simp)
    have hb2 : wb.heap[w.heap.size + 1]? = some (.cells #[.int .i64 x0, .int .i64 x1] 49 (0, 0)) := by
      have := heap_alloc_new (w.alloc (.cells #[.string a, .string b, .string c] 48)) (.cells #[.int .i64 x0, .int .i64 x1] 49)
      rw [hwb] at this
      simpa using this
    have c0 : wb.cell? ⟨w.heap.size, 0, none⟩ = some (.string a) := heap_cell hb1 0
    have c1 : wb.cell? ⟨w.heap.size, 1, none⟩ = some (.string b) := heap_cell hb1 1
    have c2 : wb.cell? ⟨w.heap.size, 2, none⟩ = some (.string c) := heap_cell hb1 2
    have k0 : wb.cell? ⟨w.heap.size + 1, 0, none⟩ = some (.int .i64 x0) := heap_cell hb2 0
    have k1 : wb.cell? ⟨w.heap.size + 1, 1, none⟩ = some (.int .i64 x1) := heap_cell hb2 1
    have HB := Lib.hid (And.intro c0 (And.intro c1 (And.intro c2 (And.intro k0 k1))))
    have HXB := Lib.hid hxb
    clear hwb hxb hb1 hb2
    go_wp2_with fail
    refine (new_own wb wb (Ext.refl _)).mono ?_
    rintro e v0 ⟨g, rfl, h0, _⟩
    have H0 := Lib.hid h0
    clear h0
    clear c0 c1 c2 k0 k1
    have c0 := (H0.out.ext).cell HB.out.1
    have c1 := (H0.out.ext).cell HB.out.2.1
    have c2 := (H0.out.ext).cell HB.out.2.2.1
    have k0 := (H0.out.ext).cell HB.out.2.2.2.1
    have k1 := (H0.out.ext).cell HB.out.2.2.2.2
    go_wp2_with fail
    refine (known_any _).mono ?_
    rintro e v9 ⟨rfl, hx9⟩
    go_wp2_with fail
    go_ret
    exact ⟨rfl, (HXB.out.trans H0.out.ext).trans hx9⟩
  have hcI : (c.size : Int) ≤ 300 := by omega
  by_cases hx0 : x0 < 0
  · go_enter Try.func8, Try.ntmps8
    go_wp2_with fail
    generalize hwb : (w.alloc (.cells #[.string a, .string b, .string c] 48)).alloc (.cells #[.int .i64 x0, .int .i64 x1] 49) = wb
    have hxb : Ext w wb := by rw [← hwb]; exact (Ext.alloc w _).trans (Ext.alloc _ _)
    have hb1 : wb.heap[w.heap.size]? = some (.cells #[.string a, .string b, .string c] 48 (0, 0)) := by rw [← hwb]; exact (Kp.of_ext (L := []) (Ext.alloc _ _)).heap (heap_alloc_new w _) (by simp)
    have hb2 : wb.heap[w.heap.size + 1]? = some (.cells #[.int .i64 x0, .int .i64 x1] 49 (0, 0)) := by
      have := heap_alloc_new (w.alloc (.cells #[.string a, .string b, .string c] 48)) (.cells #[.int .i64 x0, .int .i64 x1] 49)
      rw [hwb] at this
      simpa using this
    have c0 : wb.cell? ⟨w.heap.size, 0, none⟩ = some (.string a) := heap_cell hb1 0
    have c1 : wb.cell? ⟨w.heap.size, 1, none⟩ = some (.string b) := heap_cell hb1 1
    have c2 : wb.cell? ⟨w.heap.size, 2, none⟩ = some (.string c) := heap_cell hb1 2
    have k0 : wb.cell? ⟨w.heap.size + 1, 0, none⟩ = some (.int .i64 x0) := heap_cell hb2 0
    have k1 : wb.cell? ⟨w.heap.size + 1, 1, none⟩ = some (.int .i64 x1) := heap_cell hb2 1
    have HB := Lib.hid (And.intro c0 (And.intro c1 (And.intro c2 (And.intro k0 k1))))
    have HXB := Lib.hid hxb
    clear hwb hxb hb1 hb2
    go_wp2_with fail
    refine (new_own wb wb (Ext.refl _)).mono ?_
    rintro e v0 ⟨g, rfl, h0, _⟩
    have H0 := Lib.hid h0
    clear h0
    clear c0 c1 c2 k0 k1
    have c0 := (H0.out.ext).cell HB.out.1
    have c1 := (H0.out.ext).cell HB.out.2.1
    have c2 := (H0.out.ext).cell HB.out.2.2.1
    have k0 := (H0.out.ext).cell HB.out.2.2.2.1
    have k1 := (H0.out.ext).cell HB.out.2.2.2.2
    go_wp2_with fail
    refine (known_any _).mono ?_
    rintro e v9 ⟨rfl, hx9⟩
    go_wp2_with fail
    go_ret
    exact ⟨rfl, (HXB.out.trans H0.out.ext).trans hx9⟩
  have hy0 : 0 ≤ x0 := by omega
  by_cases hx1 : x1 < 0
  · go_enter Try.func8, Try.ntmps8
    go_wp2_with fail
    generalize hwb : (w.alloc (.cells #[.string a, .string b, .string c] 48)).alloc (.cells #[.int .i64 x0, .int .i64 x1] 49) = wb
    have hxb : Ext w wb := by rw [← hwb]; exact (Ext.alloc w _).trans (Ext.alloc _ _)
    have hb1 : wb.heap[w.heap.size]? = some (.cells #[.string a, .string b, .string c] 48 (0, 0)) := by rw [← hwb]; exact (Kp.of_ext (L := []) (Ext.alloc _ _)).heap (heap_alloc_new w _) (by simp)
    have hb2 : wb.heap[w.heap.size + 1]? = some (.cells #[.int .i64 x0, .int .i64 x1] 49 (0, 0)) := by
      have := heap_alloc_new (w.alloc (.cells #[.string a, .string b, .string c] 48)) (.cells #[.int .i64 x0, .int .i64 x1] 49)
      rw [hwb] at this
      simpa using this
    have c0 : wb.cell? ⟨w.heap.size, 0, none⟩ = some (.string a) := heap_cell hb1 0
    have c1 : wb.cell? ⟨w.heap.size, 1, none⟩ = some (.string b) := heap_cell hb1 1
    have c2 : wb.cell? ⟨w.heap.size, 2, none⟩ = some (.string c) := heap_cell hb1 2
    have k0 : wb.cell? ⟨w.heap.size + 1, 0, none⟩ = some (.int .i64 x0) := heap_cell hb2 0
    have k1 : wb.cell? ⟨w.heap.size + 1, 1, none⟩ = some (.int .i64 x1) := heap_cell hb2 1
    have HB := Lib.hid (And.intro c0 (And.intro c1 (And.intro c2 (And.intro k0 k1))))
    have HXB := Lib.hid hxb
    clear hwb hxb hb1 hb2
    go_wp2_with fail
    refine (new_own wb wb (Ext.refl _)).mono ?_
    rintro e v0 ⟨g, rfl, h0, _⟩
    have H0 := Lib.hid h0
    clear h0
    clear c0 c1 c2 k0 k1
    have c0 := (H0.out.ext).cell HB.out.1
    have c1 := (H0.out.ext).cell HB.out.2.1
    have c2 := (H0.out.ext).cell HB.out.2.2.1
    have k0 := (H0.out.ext).cell HB.out.2.2.2.1
    have k1 := (H0.out.ext).cell HB.out.2.2.2.2
    go_wp2_with fail
    refine (known_any _).mono ?_
    rintro e v9 ⟨rfl, hx9⟩
    go_wp2_with fail
    go_ret
    exact ⟨rfl, (HXB.out.trans H0.out.ext).trans hx9⟩
  have hy1 : 0 ≤ x1 := by omega
  clear hx0 hx1
  have K1 := Lib.hid (append_first a (by omega))
  have K3 := Lib.hid (if_neg (by omega) : layR ⟨a, a.size, none, none⟩ b = (0, ⟨a, a.size, some (b, 0), none⟩))
  have K4 := Lib.hid (if_neg (by omega) : layR ⟨a, a.size, some (b, 0), none⟩ c = (0, ⟨a, a.size, some (c, 0), none⟩))
  obtain ⟨m, hm, hmin⟩ : ∃ m : Nat, min x1.toNat c.size = m ∧ (if (c.size : Int) < x1 then (c.size : Int) else x1) = (m : Int) := ⟨_, rfl, by split <;> omega⟩
  have hka : keptN a a.size x0 = a.size := by unfold keptN; omega
  have hca : cutS a a.size = a := by
    apply bytes_ext
    rw [cutS_list, List.take_of_length_le (by rw [size_list]; exact Nat.le_refl _)]
  have hkc : keptN c 0 x1 = m := by unfold keptN; omega
  have hms : (cutS c m).size = m := cutS_size _ _ (by omega)
  have k5 : crashR ⟨a, a.size, some (c, 0), none⟩ x0 x1 renamed = (0, ⟨a, a.size, some (cutS c m, m), none⟩) := by
    unfold crashR
    rw [if_neg (by omega)]
    show (0, syncT ⟨cutS a (keptN a a.size x0), _, some (cutS c (keptN c 0 x1), keptN c 0 x1), none⟩) = _
    rw [hka, hca, hkc]
    rfl
  have K5 := Lib.hid k5
  have hex := extract_cut c m
  have hm0 : (0 : Int) ≤ (m : Int) := by omega
  have hmc : (m : Int) ≤ (c.size : Int) := by omega
  clear hm k5 hka hca hkc
  go_enter Try.func8, Try.ntmps8
  go_wp2_with fail
  generalize hwb : (w.alloc (.cells #[.string a, .string b, .string c] 48)).alloc (.cells #[.int .i64 x0, .int .i64 x1] 49) = wb
  have hxb : Ext w wb := by rw [← hwb]; exact (Ext.alloc w _).trans (Ext.alloc _ _)
  have hb1 : wb.heap[w.heap.size]? = some (.cells #[.string a, .string b, .string c] 48 (0, 0)) := by rw [← hwb]; exact (Kp.of_ext (L := []) (Ext.alloc _ _)).heap (heap_alloc_new w _) (by simp)
  have hb2 : wb.heap[w.heap.size + 1]? = some (.cells #[.int .i64 x0, .int .i64 x1] 49 (0, 0)) := by
    have := heap_alloc_new (w.alloc (.cells #[.string a, .string b, .string c] 48)) (.cells #[.int .i64 x0, .int .i64 x1] 49)
    rw [hwb] at this
    simpa using this
  have c0 : wb.cell? ⟨w.heap.size, 0, none⟩ = some (.string a) := heap_cell hb1 0
  have c1 : wb.cell? ⟨w.heap.size, 1, none⟩ = some (.string b) := heap_cell hb1 1
  have c2 : wb.cell? ⟨w.heap.size, 2, none⟩ = some (.string c) := heap_cell hb1 2
  have k0 : wb.cell? ⟨w.heap.size + 1, 0, none⟩ = some (.int .i64 x0) := heap_cell hb2 0
  have k1 : wb.cell? ⟨w.heap.size + 1, 1, none⟩ = some (.int .i64 x1) := heap_cell hb2 1
  have HB := Lib.hid (And.intro c0 (And.intro c1 (And.intro c2 (And.intro k0 k1))))
  have HXB := Lib.hid hxb
  clear hwb hxb hb1 hb2
  go_wp2_with fail
  refine (new_own wb wb (Ext.refl _)).mono ?_
  rintro e v0 ⟨g, rfl, h0, _⟩
  have H0 := Lib.hid h0
  clear h0
  clear c0 c1 c2 k0 k1
  have c0 := (H0.out.ext).cell HB.out.1
  have c1 := (H0.out.ext).cell HB.out.2.1
  have c2 := (H0.out.ext).cell HB.out.2.2.1
  have k0 := (H0.out.ext).cell HB.out.2.2.2.1
  have k1 := (H0.out.ext).cell HB.out.2.2.2.2
  go_wp2_with fail
  refine (H0.out.did (fun L hf => append_did g L _ _ v0 hf H0.out.ok h1) K1.out (ok_of K1.out (H0.out.ok.append _))).mono ?_
  rintro e v1 ⟨rfl, h1⟩
  have H1 := Lib.hid h1
  clear h1
  clear c0 c1 c2 k0 k1
  have c0 := (H1.out.ext).cell HB.out.1
  have c1 := (H1.out.ext).cell HB.out.2.1
  have c2 := (H1.out.ext).cell HB.out.2.2.1
  have k0 := (H1.out.ext).cell HB.out.2.2.2.1
  have k1 := (H1.out.ext).cell HB.out.2.2.2.2
  go_wp2_with fail
  refine (H1.out.did (fun L hf => sync_any g L _ v1 hf) (show (0, syncT ⟨a, 0, none, none⟩) = (0, ⟨a, a.size, none, none⟩) from rfl) (ok_of (show (0, syncT ⟨a, 0, none, none⟩) = (0, ⟨a, a.size, none, none⟩) from rfl) H1.out.ok.sync)).mono ?_
  rintro e v2 ⟨rfl, h2⟩
  have H2 := Lib.hid h2
  clear h2
  clear c0 c1 c2 k0 k1
  have c0 := (H2.out.ext).cell HB.out.1
  have c1 := (H2.out.ext).cell HB.out.2.1
  have c2 := (H2.out.ext).cell HB.out.2.2.1
  have k0 := (H2.out.ext).cell HB.out.2.2.2.1
  have k1 := (H2.out.ext).cell HB.out.2.2.2.2
  go_wp2_with fail
  refine (H2.out.did (fun L hf => lay_did g L _ _ v2 hf h2) K3.out (ok_of K3.out (H2.out.ok.lay _))).mono ?_
  rintro e v3 ⟨rfl, h3⟩
  have H3 := Lib.hid h3
  clear h3
  clear c0 c1 c2 k0 k1
  have c0 := (H3.out.ext).cell HB.out.1
  have c1 := (H3.out.ext).cell HB.out.2.1
  have c2 := (H3.out.ext).cell HB.out.2.2.1
  have k0 := (H3.out.ext).cell HB.out.2.2.2.1
  have k1 := (H3.out.ext).cell HB.out.2.2.2.2
  go_wp2_with fail
  refine (H3.out.did (fun L hf => lay_did g L _ _ v3 hf h3) K4.out (ok_of K4.out (H3.out.ok.lay _))).mono ?_
  rintro e v4 ⟨rfl, h4⟩
  have H4 := Lib.hid h4
  clear h4
  clear c0 c1 c2 k0 k1
  have c0 := (H4.out.ext).cell HB.out.1
  have c1 := (H4.out.ext).cell HB.out.2.1
  have c2 := (H4.out.ext).cell HB.out.2.2.1
  have k0 := (H4.out.ext).cell HB.out.2.2.2.1
  have k1 := (H4.out.ext).cell HB.out.2.2.2.2
  go_wp2_with fail
  refine (other_some H4.out).mono ?_
  rintro e v5 ⟨rfl, hx5⟩
  have H5 := Lib.hid (H4.out.later hx5)
  clear hx5
  clear c0 c1 c2 k0 k1
  have c0 := (H5.out.ext).cell HB.out.1
  have c1 := (H5.out.ext).cell HB.out.2.1
  have c2 := (H5.out.ext).cell HB.out.2.2.1
  have k0 := (H5.out.ext).cell HB.out.2.2.2.1
  have k1 := (H5.out.ext).cell HB.out.2.2.2.2
  go_wp2_with fail
  refine (H5.out.did (fun L hf => crash_any g L _ _ _ _ v5 hf H5.out.ok n1 n2 n3 n4) K5.out (ok_of K5.out (H5.out.ok.crash _ _ _))).mono ?_
  rintro e v6 ⟨rfl, h6⟩
  have H6 := Lib.hid h6
  clear h6
  clear c0 c1 c2 k0 k1
  have c0 := (H6.out.ext).cell HB.out.1
  have c1 := (H6.out.ext).cell HB.out.2.1
  have c2 := (H6.out.ext).cell HB.out.2.2.1
  have k0 := (H6.out.ext).cell HB.out.2.2.2.1
  have k1 := (H6.out.ext).cell HB.out.2.2.2.2
  go_wp2_with fail
  refine (other_some H6.out).mono ?_
  rintro e v7 ⟨rfl, hx7⟩
  have H7 := Lib.hid (H6.out.later hx7)
  have H8 := Lib.hid (H7.out.later (Ext.drew v7))
  clear hx7
  clear c0 c1 c2 k0 k1
  have c0 := (H7.out.ext).cell HB.out.1
  have c1 := (H7.out.ext).cell HB.out.2.1
  have c2 := (H7.out.ext).cell HB.out.2.2.1
  have k0 := (H7.out.ext).cell HB.out.2.2.2.1
  have k1 := (H7.out.ext).cell HB.out.2.2.2.2
  go_wp2_with fail
  go_still_tail 49, (by kernel_rfl)
  still_call ((H8.out.text).mono fun _ _ ⟨a, b⟩ => ⟨a, b.symm⟩)
  repeat still_step
  still_call ((H8.out.sure).mono fun _ _ ⟨a, b⟩ => ⟨a, b.symm⟩)
  repeat still_step
  refine wpStill_nil ?_
  go_wp2_with fail
  refine (known_any _).mono ?_
  rintro e v9 ⟨rfl, hx9⟩
  go_wp2_with fail
  go_ret
  exact ⟨rfl, (HXB.out.trans H8.out.ext).trans hx9⟩
end Go.Proofs.Ytjmicdehofjmgaa
