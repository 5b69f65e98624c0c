/- The walk of the document's file: crashes. -/
import Derived.Test.YtdndeggognfcaaaFilS
namespace Go.Proofs.Ytdndeggognfcaaa
open Go.RowKit Go.Lib Fil
set_option linter.unusedVariables false
set_option maxRecDepth 100000

theorem kept_size {s : ByteArray} {sure : Nat} {keep : Int} (h : sure ≤ s.size) (h2 : s.size ≤ 16777216) : (cutS s (keptN s sure keep)).size ≤ 16777216 := by
  have := keptN_le s sure keep h
  rw [cutS_size _ _ this]
  omega

/-- Behind the old text's coming back. -/
def Raw (w : World) (g : Nat) (s : ByteArray) (sure : Nat) (o : ByteArray) (on : Nat) (is : Bool) (old : ByteArray) (oldn : Nat) (was : Bool) : Prop :=
  w.heap[g]? = some (.cells #[.string s, .int .i64 (sure : Int), .string o, .int .i64 (on : Int), .bool is, .string old, .int .i64 (oldn : Int), .bool was] 54 (0, 0))
theorem Raw.drew {w : World} {g : Nat} {s : ByteArray} {sure : Nat} {o : ByteArray} {on : Nat} {is : Bool} {old : ByteArray} {oldn : Nat} {was : Bool} (h : Raw w g s sure o on is old oldn was) : Raw w.drew g s sure o on is old oldn was := h
theorem Raw.set0 {w : World} {g : Nat} {s : ByteArray} {sure : Nat} {o : ByteArray} {on : Nat} {is : Bool} {old : ByteArray} {oldn : Nat} {was : Bool} (h : Raw w g s sure o on is old oldn was) (x : ByteArray) : Raw (w.setCell ⟨g, 0, none⟩ (.string x)) g x sure o on is old oldn was := by
  have s1 := heap_setCell_same _ g 0 _ _ (.string x) h
  simp only [List.setIfInBounds_toArray, List.set_cons_zero] at s1
  exact s1
theorem Raw.set1 {w : World} {g : Nat} {s : ByteArray} {sure : Nat} {o : ByteArray} {on : Nat} {is : Bool} {old : ByteArray} {oldn : Nat} {was : Bool} (h : Raw w g s sure o on is old oldn was) (x : Nat) : Raw (w.setCell ⟨g, 1, none⟩ (.int .i64 (x : Int))) g s x o on is old oldn was := by
  have s1 := heap_setCell_same _ g 1 _ _ (.int .i64 (x : Int)) h
  simp only [List.setIfInBounds_toArray, List.set_cons_zero, List.set_cons_succ] at s1
  exact s1
theorem Raw.set2 {w : World} {g : Nat} {s : ByteArray} {sure : Nat} {o : ByteArray} {on : Nat} {is : Bool} {old : ByteArray} {oldn : Nat} {was : Bool} (h : Raw w g s sure o on is old oldn was) (x : ByteArray) : Raw (w.setCell ⟨g, 2, none⟩ (.string x)) g s sure x on is old oldn was := by
  have s1 := heap_setCell_same _ g 2 _ _ (.string x) h
  simp only [List.setIfInBounds_toArray, List.set_cons_zero, List.set_cons_succ] at s1
  exact s1
theorem Raw.set3 {w : World} {g : Nat} {s : ByteArray} {sure : Nat} {o : ByteArray} {on : Nat} {is : Bool} {old : ByteArray} {oldn : Nat} {was : Bool} (h : Raw w g s sure o on is old oldn was) (x : Nat) : Raw (w.setCell ⟨g, 3, none⟩ (.int .i64 (x : Int))) g s sure o x is old oldn was := by
  have s1 := heap_setCell_same _ g 3 _ _ (.int .i64 (x : Int)) h
  simp only [List.setIfInBounds_toArray, List.set_cons_zero, List.set_cons_succ] at s1
  exact s1

theorem other_map (a : ByteArray) (n : Nat) (t : St) (other : Int) (h : t.Ok) : otherS ⟨a, n, t.other.map fun p => crash1 p other, t.old⟩ = cutS (otherS t) (keptN (otherS t) (otherN t) other) ∧
    otherN ⟨a, n, t.other.map fun p => crash1 p other, t.old⟩ = (cutS (otherS t) (keptN (otherS t) (otherN t) other)).size ∧ (t.other.map fun p => crash1 p other).isSome = t.other.isSome := by
  obtain ⟨s, sure, oth, old⟩ := t
  cases oth with
  | none =>
    have h1 : cutS ⟨#[]⟩ (keptN ⟨#[]⟩ 0 other) = ⟨#[]⟩ := by
      apply bytes_ext
      rw [cutS, toList_mk, toList_mk]
      simp
    refine ⟨h1.symm, ?_, rfl⟩
    show 0 = (cutS ⟨#[]⟩ (keptN ⟨#[]⟩ 0 other)).size
    rw [h1]
    rfl
  | some p =>
    have hp := (h.other p rfl).2
    refine ⟨rfl, ?_, rfl⟩
    show keptN p.1 p.2 other = (cutS p.1 (keptN p.1 p.2 other)).size
    rw [cutS_size _ _ (keptN_le _ _ _ hp)]
theorem Raw.cells {w : World} {g : Nat} {s : ByteArray} {sure : Nat} {o : ByteArray} {on : Nat} {is : Bool} {old : ByteArray} {oldn : Nat} {was : Bool} (h : Raw w g s sure o on is old oldn was) :
    w.cell? ⟨g, 2, none⟩ = some (.string o) ∧ w.cell? ⟨g, 3, none⟩ = some (.int .i64 (on : Int)) ∧ w.frozen? ⟨g, 2, none⟩ = false ∧ w.frozen? ⟨g, 3, none⟩ = false :=
  ⟨heap_cell h 2, heap_cell h 3, heap_frozen h 2, heap_frozen h 3⟩


set_option maxHeartbeats 1000000 in
theorem rCrash_any (g : Nat) (t : St) (keep other : Int) (renamed : Bool) (w : World) (h : RefAt w g t) (hok : t.Ok) (hk1 : -9223372036854775808 ≤ keep) (hk2 : keep ≤ 9223372036854775807) (ho1 : -9223372036854775808 ≤ other) (ho2 : other ≤ 9223372036854775807) :
    Calls Try.prog 32 #[.pointer (some ⟨g, 0, none⟩), .int .i64 keep, .int .i64 other, .bool renamed] w fun e w' => e = .returned (.int .i64 (crashR t keep other renamed).1) ∧ Kp [g] w w' ∧ RefAt w' g (crashR t keep other renamed).2 := by
  by_cases hk0 : keep < 0
  · have hr : crashR t keep other renamed = (1, t) := if_pos (.inl hk0)
    rw [hr]
    have hd : decide (keep < 0) = true := by simpa using hk0
    have H := Lib.hid h
    clear hr h hok
    go_enter Try.func32, Try.ntmps32
    go_wp2_with fail
    go_ret
    exact ⟨rfl, Kp.refl _ _, H.out⟩
  by_cases ho0 : other < 0
  · have hr : crashR t keep other renamed = (1, t) := if_pos (.inr ho0)
    rw [hr]
    have hk0' : 0 ≤ keep := by omega
    have H := Lib.hid h
    clear hr h hok
    go_enter Try.func32, Try.ntmps32
    go_wp2_with fail
    go_ret
    exact ⟨rfl, Kp.refl _ _, H.out⟩
  have hr : crashR t keep other renamed = (0, syncT ⟨(crash1 (backT t renamed) keep).1, (crash1 (backT t renamed) keep).2, t.other.map fun p => crash1 p other, t.old⟩) := if_neg (by omega)
  rw [hr]
  clear hr
  replace hk0 : 0 ≤ keep := by omega
  replace ho0 : 0 ≤ other := by omega
  have hfo : otherN t ≤ (otherS t).size ∧ (otherS t).size ≤ 16777216 := by
    unfold otherN otherS
    cases hto : t.other with
    | none => decide
    | some p => exact ⟨(hok.other p hto).2, (hok.other p hto).1⟩
  obtain ⟨hfo1, hfo2⟩ := hfo
  have hft := hok.text
  obtain ⟨hft1, hft2⟩ := hft
  simp only at hft1 hft2
  have H := Lib.hid (show Raw w g t.s t.sure (otherS t) (otherN t) t.other.isSome (oldS t) (oldN t) t.old.isSome from h)
  have c0 : w.cell? ⟨g, 0, none⟩ = some (.string t.s) := heap_cell h 0
  have c1 : w.cell? ⟨g, 1, none⟩ = some (.int .i64 (t.sure : Int)) := heap_cell h 1
  have c2 : w.cell? ⟨g, 2, none⟩ = some (.string (otherS t)) := heap_cell h 2
  have c3 : w.cell? ⟨g, 3, none⟩ = some (.int .i64 (otherN t : Int)) := heap_cell h 3
  have c5 : w.cell? ⟨g, 5, none⟩ = some (.string (oldS t)) := heap_cell h 5
  have c6 : w.cell? ⟨g, 6, none⟩ = some (.int .i64 (oldN t : Int)) := heap_cell h 6
  have c7 : w.cell? ⟨g, 7, none⟩ = some (.bool t.old.isSome) := heap_cell h 7
  have f0 := heap_frozen h 0
  have f1 := heap_frozen h 1
  have f2 := heap_frozen h 2
  have f3 := heap_frozen h 3
  clear h
  have HO := Lib.hid hok
  by_cases hb1 : t.old.isSome = true
  · cases renamed with
    | false =>
      have hbt : backT t false = (oldS t, oldN t) := by
        unfold backT oldS oldN
        cases hto : t.old with
        | none => rw [hto] at hb1; cases hb1
        | some p => rfl
      have hfb : oldN t ≤ (oldS t).size ∧ (oldS t).size ≤ 16777216 := by
        unfold oldN oldS
        cases hto : t.old with
        | none => decide
        | some p => exact ⟨(hok.old p hto).2, (hok.old p hto).1⟩
      obtain ⟨hfb1, hfb2⟩ := hfb
      rw [hbt]
      clear hok hbt
      rw [hb1] at c7
      have HB1 := Lib.hid hb1
      clear hb1
      go_enter Try.func32, Try.ntmps32
      go_wp2_with fail
      obtain ⟨wb, hwb⟩ : ∃ wb, wb = (w.setCell ⟨g, 0, none⟩ (.string (oldS t))).setCell ⟨g, 1, none⟩ (.int .i64 (oldN t : Int)) := ⟨_, rfl⟩
      rw [← hwb]
      have hrb : Raw wb g (oldS t) (oldN t) (otherS t) (otherN t) t.other.isSome (oldS t) (oldN t) t.old.isSome := by rw [hwb]; exact (H.out.set0 _).set1 _
      have hkb : Kp [g] w wb := by rw [hwb]; exact (Kp.store g 0 _ (by simp) : Kp [g] _ _).trans (Kp.store g 1 _ (by simp) : Kp [g] _ _) (Sub.refl _ _)
      have HRB := Lib.hid hrb
      have HKB := Lib.hid hkb
      clear hwb hkb c0 c1 c2 c3 c5 c6 c7 f0 f1 f2 f3
      have c0 : wb.cell? ⟨g, 0, none⟩ = some (.string (oldS t)) := heap_cell hrb 0
      have c1 : wb.cell? ⟨g, 1, none⟩ = some (.int .i64 (oldN t : Int)) := heap_cell hrb 1
      have c2 : wb.cell? ⟨g, 2, none⟩ = some (.string (otherS t)) := heap_cell hrb 2
      have c3 : wb.cell? ⟨g, 3, none⟩ = some (.int .i64 (otherN t : Int)) := heap_cell hrb 3
      have c5 : wb.cell? ⟨g, 5, none⟩ = some (.string (oldS t)) := heap_cell hrb 5
      have c6 : wb.cell? ⟨g, 6, none⟩ = some (.int .i64 (oldN t : Int)) := heap_cell hrb 6
      have c7 : wb.cell? ⟨g, 7, none⟩ = some (.bool t.old.isSome) := heap_cell hrb 7
      have f0 := heap_frozen hrb 0
      have f1 := heap_frozen hrb 1
      have f2 := heap_frozen hrb 2
      have f3 := heap_frozen hrb 3
      clear hrb
      go_still_tail 13, (by kernel_rfl)
      still_call ((kept_any (oldS t) (oldN t) keep _ (by omega) (by omega) hk0 hk2).mono fun _ _ ⟨a, b⟩ => ⟨a, b.symm⟩)
      repeat still_step
      refine wpStill_nil ?_
      go_wp2_with fail
      obtain ⟨w1, hw1⟩ : ∃ w1, w1 = ((wb).setCell ⟨g, 0, none⟩ (.string (cutS (oldS t) (keptN (oldS t) (oldN t) keep)))).drew := ⟨_, rfl⟩
      rw [← hw1]
      have hr1 : Raw w1 g (cutS (oldS t) (keptN (oldS t) (oldN t) keep)) (oldN t) (otherS t) (otherN t) t.other.isSome (oldS t) (oldN t) t.old.isSome := by rw [hw1]; exact ((HRB.out).set0 _).drew
      have hk1 : Kp [g] w w1 := by rw [hw1]; exact ((HKB.out).trans (Kp.store g 0 _ (by simp) : Kp [g] _ _) (Sub.refl _ _)).then (Ext.drew _)
      obtain ⟨d2, d3, e2, e3⟩ := hr1.cells
      have HR1 := Lib.hid hr1
      have HK1 := Lib.hid hk1
      clear hw1 hr1 hk1 c0 c1 c2 c3 c5 c6 c7 f0 f1 f2 f3
      go_still_tail 13, (by kernel_rfl)
      still_call ((kept_any (otherS t) (otherN t) other _ hfo1 hfo2 ho0 ho2).mono fun _ _ ⟨a, b⟩ => ⟨a, b.symm⟩)
      repeat still_step
      refine wpStill_nil ?_
      have hsz := kept_size (keep := other) hfo1 hfo2
      have HOM := Lib.hid (other_map (cutS (oldS t) (keptN (oldS t) (oldN t) keep)) (oldN t) t other HO.out)
      have hss := kept_size (s := oldS t) (sure := oldN t) (keep := keep) (by omega) (by omega)
      generalize cutS (otherS t) (keptN (otherS t) (otherN t) other) = y at hsz HOM ⊢
      go_wp2_with fail
      obtain ⟨w2, hw2⟩ : ∃ w2, w2 = ((w1.setCell ⟨g, 2, none⟩ (.string y)).setCell ⟨g, 3, none⟩ (.int .i64 (y.size : Int))).drew := ⟨_, rfl⟩
      rw [← hw2]
      have hr2 : RefAt w2 g ⟨cutS (oldS t) (keptN (oldS t) (oldN t) keep), oldN t, t.other.map fun p => crash1 p other, t.old⟩ := by
        have h1 : Raw w2 g (cutS (oldS t) (keptN (oldS t) (oldN t) keep)) (oldN t) y y.size t.other.isSome (oldS t) (oldN t) t.old.isSome := by rw [hw2]; exact ((HR1.out.set2 _).set3 _).drew
        unfold RefAt
        rw [HOM.out.1, HOM.out.2.1]
        show w2.heap[g]? = some (.cells #[_, _, _, _, .bool (t.other.map fun p => crash1 p other).isSome, _, _, _] _ _)
        rw [HOM.out.2.2]
        exact h1
      have hk2 : Kp [g] w w2 := by rw [hw2]; exact ((HK1.out.trans (Kp.store g 2 _ (by simp) : Kp [g] _ _) (Sub.refl _ _)).trans (Kp.store g 3 _ (by simp) : Kp [g] _ _) (Sub.refl _ _)).then (Ext.drew _)
      have HR2 := Lib.hid hr2
      have HK2 := Lib.hid hk2
      clear hw2 hr2 hk2 d2 d3 e2 e3
      refine (rSync_any g _ w2 HR2.out hss).mono ?_
      rintro e w3 ⟨rfl, hk3, hr3⟩
      go_wp2_with fail
      go_ret
      exact ⟨rfl, HK2.out.trans hk3 (Sub.refl _ _), hr3⟩
    | true =>
      have hbt : backT t true = (t.s, t.sure) := by unfold backT; cases t.old <;> rfl
      rw [hbt]
      clear hok hbt
      rw [hb1] at c7
      have HB1 := Lib.hid hb1
      clear hb1
      go_enter Try.func32, Try.ntmps32
      go_wp2_with fail
      go_still_tail 13, (by kernel_rfl)
      still_call ((kept_any (t.s) (t.sure) keep _ (by omega) (by omega) hk0 hk2).mono fun _ _ ⟨a, b⟩ => ⟨a, b.symm⟩)
      repeat still_step
      refine wpStill_nil ?_
      go_wp2_with fail
      obtain ⟨w1, hw1⟩ : ∃ w1, w1 = ((w).setCell ⟨g, 0, none⟩ (.string (cutS (t.s) (keptN (t.s) (t.sure) keep)))).drew := ⟨_, rfl⟩
      rw [← hw1]
      have hr1 : Raw w1 g (cutS (t.s) (keptN (t.s) (t.sure) keep)) (t.sure) (otherS t) (otherN t) t.other.isSome (oldS t) (oldN t) t.old.isSome := by rw [hw1]; exact ((H.out).set0 _).drew
      have hk1 : Kp [g] w w1 := by rw [hw1]; exact (((Kp.refl [g] w)).trans (Kp.store g 0 _ (by simp) : Kp [g] _ _) (Sub.refl _ _)).then (Ext.drew _)
      obtain ⟨d2, d3, e2, e3⟩ := hr1.cells
      have HR1 := Lib.hid hr1
      have HK1 := Lib.hid hk1
      clear hw1 hr1 hk1 c0 c1 c2 c3 c5 c6 c7 f0 f1 f2 f3
      go_still_tail 13, (by kernel_rfl)
      still_call ((kept_any (otherS t) (otherN t) other _ hfo1 hfo2 ho0 ho2).mono fun _ _ ⟨a, b⟩ => ⟨a, b.symm⟩)
      repeat still_step
      refine wpStill_nil ?_
      have hsz := kept_size (keep := other) hfo1 hfo2
      have HOM := Lib.hid (other_map (cutS (t.s) (keptN (t.s) (t.sure) keep)) (t.sure) t other HO.out)
      have hss := kept_size (s := t.s) (sure := t.sure) (keep := keep) (by omega) (by omega)
      generalize cutS (otherS t) (keptN (otherS t) (otherN t) other) = y at hsz HOM ⊢
      go_wp2_with fail
      obtain ⟨w2, hw2⟩ : ∃ w2, w2 = ((w1.setCell ⟨g, 2, none⟩ (.string y)).setCell ⟨g, 3, none⟩ (.int .i64 (y.size : Int))).drew := ⟨_, rfl⟩
      rw [← hw2]
      have hr2 : RefAt w2 g ⟨cutS (t.s) (keptN (t.s) (t.sure) keep), t.sure, t.other.map fun p => crash1 p other, t.old⟩ := by
        have h1 : Raw w2 g (cutS (t.s) (keptN (t.s) (t.sure) keep)) (t.sure) y y.size t.other.isSome (oldS t) (oldN t) t.old.isSome := by rw [hw2]; exact ((HR1.out.set2 _).set3 _).drew
        unfold RefAt
        rw [HOM.out.1, HOM.out.2.1]
        show w2.heap[g]? = some (.cells #[_, _, _, _, .bool (t.other.map fun p => crash1 p other).isSome, _, _, _] _ _)
        rw [HOM.out.2.2]
        exact h1
      have hk2 : Kp [g] w w2 := by rw [hw2]; exact ((HK1.out.trans (Kp.store g 2 _ (by simp) : Kp [g] _ _) (Sub.refl _ _)).trans (Kp.store g 3 _ (by simp) : Kp [g] _ _) (Sub.refl _ _)).then (Ext.drew _)
      have HR2 := Lib.hid hr2
      have HK2 := Lib.hid hk2
      clear hw2 hr2 hk2 d2 d3 e2 e3
      refine (rSync_any g _ w2 HR2.out hss).mono ?_
      rintro e w3 ⟨rfl, hk3, hr3⟩
      go_wp2_with fail
      go_ret
      exact ⟨rfl, HK2.out.trans hk3 (Sub.refl _ _), hr3⟩
  · have hb2 : t.old.isSome = false := by simpa using hb1
    have hbt : backT t renamed = (t.s, t.sure) := by
      unfold backT
      cases hto : t.old with
      | none => rfl
      | some p => rw [hto] at hb2; cases hb2
    rw [hbt]
    rw [hb2] at c7
    have HB1 := Lib.hid hb1
    clear hok hbt hb1 hb2
    go_enter Try.func32, Try.ntmps32
    go_wp2_with fail
    go_still_tail 13, (by kernel_rfl)
    still_call ((kept_any (t.s) (t.sure) keep _ (by omega) (by omega) hk0 hk2).mono fun _ _ ⟨a, b⟩ => ⟨a, b.symm⟩)
    repeat still_step
    refine wpStill_nil ?_
    go_wp2_with fail
    obtain ⟨w1, hw1⟩ : ∃ w1, w1 = ((w).setCell ⟨g, 0, none⟩ (.string (cutS (t.s) (keptN (t.s) (t.sure) keep)))).drew := ⟨_, rfl⟩
    rw [← hw1]
    have hr1 : Raw w1 g (cutS (t.s) (keptN (t.s) (t.sure) keep)) (t.sure) (otherS t) (otherN t) t.other.isSome (oldS t) (oldN t) t.old.isSome := by rw [hw1]; exact ((H.out).set0 _).drew
    have hk1 : Kp [g] w w1 := by rw [hw1]; exact (((Kp.refl [g] w)).trans (Kp.store g 0 _ (by simp) : Kp [g] _ _) (Sub.refl _ _)).then (Ext.drew _)
    obtain ⟨d2, d3, e2, e3⟩ := hr1.cells
    have HR1 := Lib.hid hr1
    have HK1 := Lib.hid hk1
    clear hw1 hr1 hk1 c0 c1 c2 c3 c5 c6 c7 f0 f1 f2 f3
    go_still_tail 13, (by kernel_rfl)
    still_call ((kept_any (otherS t) (otherN t) other _ hfo1 hfo2 ho0 ho2).mono fun _ _ ⟨a, b⟩ => ⟨a, b.symm⟩)
    repeat still_step
    refine wpStill_nil ?_
    have hsz := kept_size (keep := other) hfo1 hfo2
    have HOM := Lib.hid (other_map (cutS (t.s) (keptN (t.s) (t.sure) keep)) (t.sure) t other HO.out)
    have hss := kept_size (s := t.s) (sure := t.sure) (keep := keep) (by omega) (by omega)
    generalize cutS (otherS t) (keptN (otherS t) (otherN t) other) = y at hsz HOM ⊢
    go_wp2_with fail
    obtain ⟨w2, hw2⟩ : ∃ w2, w2 = ((w1.setCell ⟨g, 2, none⟩ (.string y)).setCell ⟨g, 3, none⟩ (.int .i64 (y.size : Int))).drew := ⟨_, rfl⟩
    rw [← hw2]
    have hr2 : RefAt w2 g ⟨cutS (t.s) (keptN (t.s) (t.sure) keep), t.sure, t.other.map fun p => crash1 p other, t.old⟩ := by
      have h1 : Raw w2 g (cutS (t.s) (keptN (t.s) (t.sure) keep)) (t.sure) y y.size t.other.isSome (oldS t) (oldN t) t.old.isSome := by rw [hw2]; exact ((HR1.out.set2 _).set3 _).drew
      unfold RefAt
      rw [HOM.out.1, HOM.out.2.1]
      show w2.heap[g]? = some (.cells #[_, _, _, _, .bool (t.other.map fun p => crash1 p other).isSome, _, _, _] _ _)
      rw [HOM.out.2.2]
      exact h1
    have hk2 : Kp [g] w w2 := by rw [hw2]; exact ((HK1.out.trans (Kp.store g 2 _ (by simp) : Kp [g] _ _) (Sub.refl _ _)).trans (Kp.store g 3 _ (by simp) : Kp [g] _ _) (Sub.refl _ _)).then (Ext.drew _)
    have HR2 := Lib.hid hr2
    have HK2 := Lib.hid hk2
    clear hw2 hr2 hk2 d2 d3 e2 e3
    refine (rSync_any g _ w2 HR2.out hss).mono ?_
    rintro e w3 ⟨rfl, hk3, hr3⟩
    go_wp2_with fail
    go_ret
    exact ⟨rfl, HK2.out.trans hk3 (Sub.refl _ _), hr3⟩
end Go.Proofs.Ytdndeggognfcaaa
