/- The walk of package file's Copy. -/
import Derived.Test.YtjmicdehofjmgaaFilQ
import Derived.Deep.RegionWith
namespace Go.Proofs.Ytjmicdehofjmgaa
open Go.RowKit Go.Lib Fil
set_option linter.unusedVariables false

theorem copied_opt (v : Value) (L : List Nat) (p : Option (ByteArray × Nat)) (w0 w : World) (hx : Hid (Ext w0 w)) (h : Hid (TextAt w0 v L p ∧ ∀ q, p = some q → Fine1 q)) :
    Calls Try.prog 23 #[v] w fun e w' => ∃ a' L', e = .returned (.pointer a') ∧ TextAt w' (.pointer a') L' p ∧ (∀ k ∈ L', w0.heap.size ≤ k) ∧ (∀ k ∈ L', w.heap.size ≤ k) ∧ Ext w0 w' ∧ Ext w w' := by
  have ht := h.out.1.ext hx.out
  have hf := h.out.2
  have hx0 := hx.out
  cases p with
  | none =>
    obtain ⟨rfl, rfl⟩ := ht
    refine (copied_nil w).mono ?_
    rintro e _ ⟨rfl, rfl⟩
    exact ⟨_, [], rfl, ⟨rfl, rfl⟩, by simp, by simp, hx0, Ext.refl _⟩
  | some p =>
    obtain ⟨g, bv, rfl, rfl, hg, hb⟩ := ht
    have h1 := (hf p rfl).1
    refine (copied_any g p.2 bv p.1.toList w (heap_cell hg 0) (heap_cell hg 1) hb (by rw [size_list]; omega)).mono ?_
    rintro e w' ⟨k, bv', rfl, hk, hk', hb', hx'⟩
    have := hx0.size
    exact ⟨_, [k], rfl, ⟨k, bv', rfl, rfl, hk', hb'⟩, by simp; omega, by simp; omega, hx0.trans hx', hx'⟩

theorem wpAnyH_swap {P : Program} {md : Region.Mode} {ops : Array Oper} {Q : Exit → Act → World → Prop} {S S' : World → Prop} (hS : ∀ w, S' w → S w) : ∀ (fuel : Nat) (listed : Array Bool) (a : Act) (w : World), wpAnyH P md ops Q S' fuel listed a w → wpAnyH P md ops Q S fuel listed a w
  | 0, _, _, _, h => h
  | fuel + 1, _, _, _, h => ⟨h.1, fun i hi => wpOp_mono (fun a' w' h' => ⟨hS _ h'.1, wpAnyH_swap hS fuel _ a' w' h'.2⟩) (h.2 i hi)⟩



set_option maxHeartbeats 2000000 in
theorem copy_any (g : Nat) (L : List Nat) (t : St) (w : World) (h : FileAt w g L t) (hok : t.Ok) :
    Calls Try.prog 10 #[.pointer (some ⟨g, 0, none⟩)] w fun e w' => ∃ g' L', e = .returned (.pointer (some ⟨g', 0, none⟩)) ∧ Ext w w' ∧ FileAt w' g' L' t ∧ ∀ k ∈ L', w.heap.size ≤ k := by
  obtain ⟨bv, ov, dv, Lo, Ld, hg, hb, ho, hd, rfl, hne⟩ := h
  have c0 : w.cell? ⟨g, 0, none⟩ = some bv := heap_cell hg 0
  have c1 : w.cell? ⟨g, 1, none⟩ = some (.int .i64 (t.sure : Int)) := heap_cell hg 1
  have c2 : w.cell? ⟨g, 2, none⟩ = some ov := heap_cell hg 2
  have c3 : w.cell? ⟨g, 3, none⟩ = some dv := heap_cell hg 3
  have HO := Lib.hid (And.intro ho hok.other)
  have HD := Lib.hid (And.intro hd hok.old)
  have HB := Lib.hid hb
  have HX := Lib.hid (Ext.drew w)
  have hsz : t.s.toList.length ≤ 16777216 := by rw [size_list]; exact hok.text.1
  clear hg hb ho hd hne hok
  go_enter Try.func10, Try.ntmps10
  go_wp2_with fail
  refine wp_region_held_drew (S := fun w' => w'.cell? ⟨g, 2, none⟩ = some ov ∧ w'.cell? ⟨g, 3, none⟩ = some dv) (by kernel_rfl) ⟨c2, c3⟩ (fun hHeld => ?_)
  refine' wpAnyH_take (i := 0) (oi := _) (v := _) ?hi1 ?hs1 ?hf1 ?hr1 ?hQ1 (Or.inl ⟨?hw1, ?hy1⟩) (by assumption) ?hrest1
  case hi1 => simp only [List.getElem?_toArray]; rfl
  case hs1 => kernel_rfl
  case hf1 => kernel_rfl
  case hr1 => kernel_rfl
  case hQ1 => exact fun _ _ _ h => h
  case hw1 => rfl
  case hy1 => intro w hSw; (try dsimp only at hSw); go_simp; try with_reducible rfl
  try simp only [Act.put, List.setIfInBounds_toArray, List.set_cons_zero, List.set_cons_succ]
  refine' wpAnyH_take (i := 1) (oi := _) (v := _) ?hi2 ?hs2 ?hf2 ?hr2 ?hQ2 (Or.inl ⟨?hw2, ?hy2⟩) (by assumption) ?hrest2
  case hi2 => simp only [List.getElem?_toArray]; rfl
  case hs2 => kernel_rfl
  case hf2 => kernel_rfl
  case hr2 => kernel_rfl
  case hQ2 => exact fun _ _ _ h => h
  case hw2 => rfl
  case hy2 => intro w hSw; (try dsimp only at hSw); go_simp; try with_reducible rfl
  try simp only [Act.put, List.setIfInBounds_toArray, List.set_cons_zero, List.set_cons_succ]
  refine' wpAnyH_take (i := 2) (oi := _) (v := _) ?hi3 ?hs3 ?hf3 ?hr3 ?hQ3 (Or.inl ⟨?hw3, ?hy3⟩) (by assumption) ?hrest3
  case hi3 => simp only [List.getElem?_toArray]; rfl
  case hs3 => kernel_rfl
  case hf3 => kernel_rfl
  case hr3 => kernel_rfl
  case hQ3 => exact fun _ _ _ h => h
  case hw3 => rfl
  case hy3 => intro w hSw; (try dsimp only at hSw); go_simp; try with_reducible rfl
  try simp only [Act.put, List.setIfInBounds_toArray, List.set_cons_zero, List.set_cons_succ]
  refine' wpAnyH_take (i := 6) (oi := _) (v := _) ?hi4 ?hs4 ?hf4 ?hr4 ?hQ4 (Or.inl ⟨?hw4, ?hy4⟩) (by assumption) ?hrest4
  case hi4 => simp only [List.getElem?_toArray]; rfl
  case hs4 => kernel_rfl
  case hf4 => kernel_rfl
  case hr4 => kernel_rfl
  case hQ4 => exact fun _ _ _ h => h
  case hw4 => rfl
  case hy4 => intro w hSw; (try dsimp only at hSw); go_simp; try with_reducible rfl
  try simp only [Act.put, List.setIfInBounds_toArray, List.set_cons_zero, List.set_cons_succ]
  refine' wpAnyH_take (i := 7) (oi := _) (v := _) ?hi5 ?hs5 ?hf5 ?hr5 ?hQ5 (Or.inl ⟨?hw5, ?hy5⟩) (by assumption) ?hrest5
  case hi5 => simp only [List.getElem?_toArray]; rfl
  case hs5 => kernel_rfl
  case hf5 => kernel_rfl
  case hr5 => kernel_rfl
  case hQ5 => exact fun _ _ _ h => h
  case hw5 => rfl
  case hy5 => intro w hSw; (try dsimp only at hSw); go_simp; try with_reducible rfl
  try simp only [Act.put, List.setIfInBounds_toArray, List.set_cons_zero, List.set_cons_succ]
  refine' wpAnyH_take (i := 8) (oi := _) (v := _) ?hi6 ?hs6 ?hf6 ?hr6 ?hQ6 (Or.inl ⟨?hw6, ?hy6⟩) (by assumption) ?hrest6
  case hi6 => simp only [List.getElem?_toArray]; rfl
  case hs6 => kernel_rfl
  case hf6 => kernel_rfl
  case hr6 => kernel_rfl
  case hQ6 => exact fun _ _ _ h => h
  case hw6 => rfl
  case hy6 => intro w hSw; (try dsimp only at hSw); go_simp; try with_reducible rfl
  try simp only [Act.put, List.setIfInBounds_toArray, List.set_cons_zero, List.set_cons_succ]
  refine' wpAnyH_take (i := 9) (oi := _) (v := _) ?hi7 ?hs7 ?hf7 ?hr7 ?hQ7 (Or.inl ⟨?hw7, ?hy7⟩) (by assumption) ?hrest7
  case hi7 => simp only [List.getElem?_toArray]; rfl
  case hs7 => kernel_rfl
  case hf7 => kernel_rfl
  case hr7 => kernel_rfl
  case hQ7 => exact fun _ _ _ h => h
  case hw7 => rfl
  case hy7 => intro w hSw; (try dsimp only at hSw); go_simp; try with_reducible rfl
  try simp only [Act.put, List.setIfInBounds_toArray, List.set_cons_zero, List.set_cons_succ]
  refine' wpAnyH_take (i := 11) (oi := _) (v := _) ?hi8 ?hs8 ?hf8 ?hr8 ?hQ8 (Or.inl ⟨?hw8, ?hy8⟩) (by assumption) ?hrest8
  case hi8 => simp only [List.getElem?_toArray]; rfl
  case hs8 => kernel_rfl
  case hf8 => kernel_rfl
  case hr8 => kernel_rfl
  case hQ8 => exact fun _ _ _ h => h
  case hw8 => rfl
  case hy8 => intro w hSw; (try dsimp only at hSw); go_simp; try with_reducible rfl
  try simp only [Act.put, List.setIfInBounds_toArray, List.set_cons_zero, List.set_cons_succ]
  refine' wpAnyH_take (i := 12) (oi := _) (v := _) ?hi9 ?hs9 ?hf9 ?hr9 ?hQ9 (Or.inl ⟨?hw9, ?hy9⟩) (by assumption) ?hrest9
  case hi9 => simp only [List.getElem?_toArray]; rfl
  case hs9 => kernel_rfl
  case hf9 => kernel_rfl
  case hr9 => kernel_rfl
  case hQ9 => exact fun _ _ _ h => h
  case hw9 => rfl
  case hy9 => intro w hSw; (try dsimp only at hSw); go_simp; try with_reducible rfl
  try simp only [Act.put, List.setIfInBounds_toArray, List.set_cons_zero, List.set_cons_succ]
  refine' wpAnyH_take (i := 13) (oi := _) (v := _) ?hi10 ?hs10 ?hf10 ?hr10 ?hQ10 (Or.inl ⟨?hw10, ?hy10⟩) (by assumption) ?hrest10
  case hi10 => simp only [List.getElem?_toArray]; rfl
  case hs10 => kernel_rfl
  case hf10 => kernel_rfl
  case hr10 => kernel_rfl
  case hQ10 => exact fun _ _ _ h => h
  case hw10 => rfl
  case hy10 => intro w hSw; (try dsimp only at hSw); go_simp; try with_reducible rfl
  try simp only [Act.put, List.setIfInBounds_toArray, List.set_cons_zero, List.set_cons_succ]
  refine' wpAnyH_take (i := 14) (oi := _) (v := _) ?hi11 ?hs11 ?hf11 ?hr11 ?hQ11 (Or.inl ⟨?hw11, ?hy11⟩) (by assumption) ?hrest11
  case hi11 => simp only [List.getElem?_toArray]; rfl
  case hs11 => kernel_rfl
  case hf11 => kernel_rfl
  case hr11 => kernel_rfl
  case hQ11 => exact fun _ _ _ h => h
  case hw11 => rfl
  case hy11 => intro w hSw; (try dsimp only at hSw); go_simp; try with_reducible rfl
  try simp only [Act.put, List.setIfInBounds_toArray, List.set_cons_zero, List.set_cons_succ]
  refine wpAnyH_ready (rs := [3]) (by kernel_rfl) (by simp) ?_
  refine' AllReadyH.cons (o := _) ?ho12 (fun K hK => ?hstep12) AllReadyH.nil
  case ho12 => simp only [List.getElem?_toArray]; rfl
  go_simp
  refine (copied_any g t.sure bv t.s.toList _ (by exact c0) (by exact c1) (by exact HB.out) hsz).mono ?_
  rintro e w1 ⟨k, bv', rfl, hk, hk', hb', hx1⟩
  obtain ⟨A1, n1, cc1, rfl, _⟩ := hb'.byt
  have k0 : w1.cell? ⟨k, 0, none⟩ = some (.slice A1 n1 cc1) := heap_cell hk' 0
  have k1 : w1.cell? ⟨k, 1, none⟩ = some (.int .i64 (t.sure : Int)) := heap_cell hk' 1
  have d2 := hx1.cell c2
  have d3 := hx1.cell c3
  have HK := Lib.hid hk'
  have HBT := Lib.hid hb'
  have HX1 := Lib.hid ((Ext.drew w).trans hx1)
  clear hx1 hk' hb' HX
  refine hK.out _ _ (⟨d2, d3⟩) (fun hHeld => ?_)
  clear hK K
  try simp only [Act.put, List.setIfInBounds_toArray, List.set_cons_zero, List.set_cons_succ]
  refine wpAnyH_swap (S' := fun w' => (w'.cell? ⟨k, 0, none⟩ = some (.slice A1 n1 cc1) ∧ w'.cell? ⟨k, 1, none⟩ = some (.int .i64 (t.sure : Int))) ∧ w'.cell? ⟨g, 2, none⟩ = some ov ∧ w'.cell? ⟨g, 3, none⟩ = some dv) (fun _ h => h.2) _ _ _ _ ?_
  have hHeld2 : (w1.cell? ⟨k, 0, none⟩ = some (.slice A1 n1 cc1) ∧ w1.cell? ⟨k, 1, none⟩ = some (.int .i64 (t.sure : Int))) ∧ w1.cell? ⟨g, 2, none⟩ = some ov ∧ w1.cell? ⟨g, 3, none⟩ = some dv := ⟨⟨k0, k1⟩, d2, d3⟩
  refine' wpAnyH_take (i := 4) (oi := _) (v := _) ?hi14 ?hs14 ?hf14 ?hr14 ?hQ14 (Or.inl ⟨?hw14, ?hy14⟩) (by assumption) ?hrest14
  case hi14 => simp only [List.getElem?_toArray]; rfl
  case hs14 => kernel_rfl
  case hf14 => kernel_rfl
  case hr14 => kernel_rfl
  case hQ14 => exact fun _ _ _ h => h
  case hw14 => rfl
  case hy14 => intro w hSw; (try dsimp only at hSw); go_simp; try with_reducible rfl
  try simp only [Act.put, List.setIfInBounds_toArray, List.set_cons_zero, List.set_cons_succ]
  refine' wpAnyH_take (i := 5) (oi := _) (v := _) ?hi15 ?hs15 ?hf15 ?hr15 ?hQ15 (Or.inl ⟨?hw15, ?hy15⟩) (by assumption) ?hrest15
  case hi15 => simp only [List.getElem?_toArray]; rfl
  case hs15 => kernel_rfl
  case hf15 => kernel_rfl
  case hr15 => kernel_rfl
  case hQ15 => exact fun _ _ _ h => h
  case hw15 => rfl
  case hy15 => intro w hSw; (try dsimp only at hSw); go_simp; try with_reducible rfl
  try simp only [Act.put, List.setIfInBounds_toArray, List.set_cons_zero, List.set_cons_succ]
  refine wpAnyH_ready (rs := [10]) (by kernel_rfl) (by simp) ?_
  refine' AllReadyH.cons (o := _) ?ho16 (fun K hK => ?hstep16) AllReadyH.nil
  case ho16 => simp only [List.getElem?_toArray]; rfl
  go_simp
  refine (copied_opt ov Lo t.other w _ HX1 HO).mono ?_
  rintro e w2 ⟨a2, L2, rfl, ht2, hL2, hM2, hx2, hy2⟩
  have HX2 := Lib.hid hx2
  have HY2 := Lib.hid hy2
  have HT2 := Lib.hid ht2
  have e0 := hy2.cell k0
  have e1 := hy2.cell k1
  have e2 := hy2.cell d2
  have e3 := hy2.cell d3
  clear hx2 hy2 ht2
  refine hK.out _ _ (⟨⟨e0, e1⟩, e2, e3⟩) (fun hHeld => ?_)
  clear hK K
  try simp only [Act.put, List.setIfInBounds_toArray, List.set_cons_zero, List.set_cons_succ]
  refine wpAnyH_ready (rs := [15]) (by kernel_rfl) (by simp) ?_
  refine' AllReadyH.cons (o := _) ?ho18 (fun K hK => ?hstep18) AllReadyH.nil
  case ho18 => simp only [List.getElem?_toArray]; rfl
  go_simp
  refine (copied_opt dv Ld t.old w _ HX2 HD).mono ?_
  rintro e w3 ⟨a3, L3, rfl, ht3, hL3, hM3, hx3, hy3⟩
  have HX3 := Lib.hid hx3
  have HY3 := Lib.hid hy3
  have HT3 := Lib.hid ht3
  have f0 := hy3.cell e0
  have f1 := hy3.cell e1
  have f2 := hy3.cell e2
  have f3 := hy3.cell e3
  clear hx3 hy3 ht3
  refine hK.out _ _ (⟨⟨f0, f1⟩, f2, f3⟩) (fun hHeld => ?_)
  clear hK K
  try simp only [Act.put, List.setIfInBounds_toArray, List.set_cons_zero, List.set_cons_succ]
  refine' wpAnyH_take (i := 16) (oi := _) (v := _) ?hi20 ?hs20 ?hf20 ?hr20 ?hQ20 (Or.inl ⟨?hw20, ?hy20⟩) (by assumption) ?hrest20
  case hi20 => simp only [List.getElem?_toArray]; rfl
  case hs20 => kernel_rfl
  case hf20 => kernel_rfl
  case hr20 => kernel_rfl
  case hQ20 => exact fun _ _ _ h => h
  case hw20 => rfl
  case hy20 => intro w hSw; (try dsimp only at hSw); go_simp; try with_reducible rfl
  try simp only [Act.put, List.setIfInBounds_toArray, List.set_cons_zero, List.set_cons_succ]
  refine wpAnyH_ready (rs := [17]) (by kernel_rfl) (by simp) ?_
  refine' AllReadyH.cons (o := _) ?ho21 (fun K hK => ?hstep21) AllReadyH.nil
  case ho21 => simp only [List.getElem?_toArray]; rfl
  go_simp
  refine hK.out _ _ (⟨⟨(Ext.alloc _ _).cell f0, (Ext.alloc _ _).cell f1⟩, (Ext.alloc _ _).cell f2, (Ext.alloc _ _).cell f3⟩) (fun hHeld => ?_)
  clear hK K
  try simp only [Act.put, List.setIfInBounds_toArray, List.set_cons_zero, List.set_cons_succ]
  refine' wpAnyH_take (i := 18) (oi := _) (v := _) ?hi23 ?hs23 ?hf23 ?hr23 ?hQ23 (Or.inl ⟨?hw23, ?hy23⟩) (by assumption) ?hrest23
  case hi23 => simp only [List.getElem?_toArray]; rfl
  case hs23 => kernel_rfl
  case hf23 => kernel_rfl
  case hr23 => kernel_rfl
  case hQ23 => exact fun _ _ _ h => h
  case hw23 => rfl
  case hy23 => intro w hSw; (try dsimp only at hSw); go_simp; try with_reducible rfl
  try simp only [Act.put, List.setIfInBounds_toArray, List.set_cons_zero, List.set_cons_succ]
  refine wpAnyH_done (by kernel_rfl) ?_ _
  clear hHeld hHeld2 c0 c1 c2 c3 d2 d3 k0 k1 e0 e1 e2 e3 f0 f1 f2 f3
  go_wp2_with fail
  go_ret
  refine ⟨w3.heap.size, w3.heap.size :: (L2 ++ L3), rfl, HX3.out.trans (Ext.alloc w3 _), ⟨_, _, _, L2, L3, heap_alloc_new w3 _, ((HBT.out.ext HY2.out).ext HY3.out).ext (Ext.alloc w3 _), (HT2.out.ext HY3.out).ext (Ext.alloc w3 _), HT3.out.ext (Ext.alloc w3 _), rfl, ?_⟩, ?_⟩
  · intro j h2 h3
    obtain ⟨c, f, h⟩ := HT2.out.typed j h2
    have h4 := (Array.getElem?_eq_some_iff.1 h).1
    have h5 := hM3 j h3
    omega
  · intro j hj
    simp only [List.mem_cons, List.mem_append] at hj
    rcases hj with rfl | hj | hj
    · exact HX3.out.size
    · exact hL2 j hj
    · exact hL3 j hj
end Go.Proofs.Ytjmicdehofjmgaa
