/- The walk of package graph's Add. -/
import Derived.Test.YtdahdghphjlmfaaGraC
import Derived.Test.YtdahdghphjlmfaaGraV
import Derived.Deep.RegionHeld3
namespace Go.Proofs.Ytdahdghphjlmfaa
open Go.RowKit Sets Gra
set_option linter.unusedVariables false


theorem ruleV_ex (q : Rule) : ∃ src dst kind size align, ruleV q = .agg #[.string src, .string dst, .int .i64 kind, .int .i64 size, .int .i64 align] := ⟨_, _, _, _, _, rfl⟩
theorem neg_true {b : Bool} (h : b = true) : ¬ b = false := by simp [h]

set_option maxHeartbeats 2000000 in
theorem add_any (B g : Nat) (L : List Rule) (r : Rule) (w : World) (h : GraphAt B w g L) (hlen : L.length ≤ 100000) (hr : RuleOk r) (hB : B ≤ w.heap.size) :
    Calls Try.prog 12 #[.pointer (some ⟨g, 0, none⟩), ruleV r] w fun e w' => e = .returned (.int .i64 (addR L r).1) ∧ GDid B w w' g (addR L r).2 := by
  have HRO := Lib.hid hr
  have H := Lib.hid h
  obtain ⟨bw, hcw, _⟩ := graph_lookup h
  have HCW := Lib.hid hcw
  clear hcw
  obtain ⟨v, hv⟩ : ∃ v, v = w.alloc (.cells #[.string r.src, .string r.dst, .int .i64 r.kind, .int .i64 r.size, .int .i64 r.align] 31) := ⟨_, rfl⟩
  have hxv : Ext w v := by rw [hv]; exact Ext.alloc w _
  have hvh : v.heap[w.heap.size]? = some (.cells #[.string r.src, .string r.dst, .int .i64 r.kind, .int .i64 r.size, .int .i64 r.align] 31) := by rw [hv]; exact heap_alloc_new w _
  have H0 := Lib.hid (h.ext hxv)
  obtain ⟨b, cg, hlk⟩ := graph_lookup H0.out
  have hcells : ∀ w', Ext v w' → w'.cell? ⟨w.heap.size, 0, none⟩ = some (.string r.src) ∧ w'.cell? ⟨w.heap.size, 1, none⟩ = some (.string r.dst) ∧ w'.cell? ⟨w.heap.size, 2, none⟩ = some (.int .i64 r.kind) ∧ w'.cell? ⟨w.heap.size, 3, none⟩ = some (.int .i64 r.size) ∧ w'.cell? ⟨w.heap.size, 4, none⟩ = some (.int .i64 r.align) ∧ w'.cell? ⟨g, 0, none⟩ = some (.map (some b)) :=
    fun w' hx => ⟨hx.cell (heap_cell hvh 0), hx.cell (heap_cell hvh 1), hx.cell (heap_cell hvh 2), hx.cell (heap_cell hvh 3), hx.cell (heap_cell hvh 4), hx.cell cg⟩
  have hS0 : ∀ w', Ext v w' → w'.cell? ⟨g, 0, none⟩ = some (.map (some b)) ∧ w'.cell? ⟨w.heap.size, 0, none⟩ = some (.string r.src) ∧ (Instr.lookup 60 (.map (some b)) (.string r.src) true).run Try.prog w' = .ok (.tuple #[ruleV (intoV L r.src), .bool (intoL L r.src).isSome]) w' :=
    fun w' hx => ⟨hx.cell cg, hx.cell (heap_cell hvh 0), (hlk r.src hr.s w' hx).1⟩
  have hS1 : ∀ w', Ext v w' → w'.cell? ⟨g, 0, none⟩ = some (.map (some b)) ∧ w'.cell? ⟨w.heap.size, 1, none⟩ = some (.string r.dst) ∧ (Instr.lookup 60 (.map (some b)) (.string r.dst) true).run Try.prog w' = .ok (.tuple #[ruleV (intoV L r.dst), .bool (intoL L r.dst).isSome]) w' :=
    fun w' hx => ⟨hx.cell cg, hx.cell (heap_cell hvh 1), (hlk r.dst hr.d w' hx).1⟩
  clear h hlk hr cg
  cases hrt : rightR r with
  | false =>
    have ha : addR L r = (1, L) := by unfold addR; rw [if_pos hrt]
    rw [ha]
    obtain ⟨rs, rd, rk, rz, ra⟩ := r
    dsimp only at hcells hS0 hS1 hv
    have HRT := Lib.hid hrt
    have HV := Lib.hid hv
    have HXV := Lib.hid hxv
    have HC := Lib.hid hcells
    have HS0 := Lib.hid hS0
    have HS1 := Lib.hid hS1
    clear hrt hv hxv hvh ha hcells hS0 hS1
    simp only [ruleV]
    go_enter Try.func12, Try.ntmps12
    go_wp2_with fail
    rw [← HV.out]
    clear HV
    refine (right_any ⟨rs, rd, rk, rz, ra⟩ v HRO.out).mono ?_
    rintro e v1 ⟨rfl, hx⟩
    rw [HRT.out]
    obtain ⟨c0, c1, c2, c3, c4, cg1⟩ := HC.out v1 hx
    have HX := Lib.hid hx
    clear hx
    clear c0 c1 c2 c3 c4 cg1
    go_wp2_with fail
    go_ret
    exact ⟨rfl, GDid.of_ext H.out (HXV.out.trans HX.out) hB⟩
  | true =>
    cases hi : intoL L r.dst with
    | some q =>
      have ha : addR L r = (6, L) := by unfold addR; rw [if_neg (neg_true hrt), if_pos (by simp [hi])]
      rw [ha]
      have HI := Lib.hid hi
      clear hi
      obtain ⟨rs, rd, rk, rz, ra⟩ := r
      dsimp only at hcells hS0 hS1 hv
      have HRT := Lib.hid hrt
      have HV := Lib.hid hv
      have HXV := Lib.hid hxv
      have HC := Lib.hid hcells
      have HS0 := Lib.hid hS0
      have HS1 := Lib.hid hS1
      clear hrt hv hxv hvh ha hcells hS0 hS1
      simp only [ruleV]
      go_enter Try.func12, Try.ntmps12
      go_wp2_with fail
      rw [← HV.out]
      clear HV
      refine (right_any ⟨rs, rd, rk, rz, ra⟩ v HRO.out).mono ?_
      rintro e v1 ⟨rfl, hx⟩
      rw [HRT.out]
      obtain ⟨c0, c1, c2, c3, c4, cg1⟩ := HC.out v1 hx
      have HX := Lib.hid hx
      clear hx
      go_wp2_with fail
      obtain ⟨ts, td, tk, tz, ta, ht⟩ := ruleV_ex (intoV L rd)
      have hSx := HS1.out
      rw [ht, HI.out] at hSx
      refine wp_region_held_drew (S := fun w' => w'.cell? ⟨g, 0, none⟩ = some (.map (some b)) ∧ w'.cell? ⟨w.heap.size, 1, none⟩ = some (.string rd) ∧ (Instr.lookup 60 (.map (some b)) (.string rd) true).run Try.prog w' = .ok (.tuple #[.agg #[.string ts, .string td, .int .i64 tk, .int .i64 tz, .int .i64 ta], .bool _]) w') (by kernel_rfl) (hSx _ (HX.out.trans (Ext.drew _))) (fun hHeld => ?_)
      refine' wpAnyH_take (i := 0) (oi := _) (v := _) ?hi13 ?hs13 ?hf13 ?hr13 ?hQ13 (Or.inl ⟨?hw13, ?hy13⟩) (by assumption) ?hrest13
      case hi13 => simp only [List.getElem?_toArray]; rfl
      case hs13 => kernel_rfl
      case hf13 => kernel_rfl
      case hr13 => kernel_rfl
      case hQ13 => exact fun _ _ _ h => h
      case hw13 => rfl
      case hy13 => intro w hSw; obtain ⟨hS1, hS2, hS3⟩ := hSw; go_simp; try with_reducible rfl
      try simp only [Act.put, List.setIfInBounds_toArray, List.set_cons_zero, List.set_cons_succ]
      refine' wpAnyH_take (i := 1) (oi := _) (v := _) ?hi14 ?hs14 ?hf14 ?hr14 ?hQ14 (Or.inl ⟨?hw14, ?hy14⟩) (by assumption) ?hrest14
      case hi14 => simp only [List.getElem?_toArray]; rfl
      case hs14 => kernel_rfl
      case hf14 => kernel_rfl
      case hr14 => kernel_rfl
      case hQ14 => exact fun _ _ _ h => h
      case hw14 => rfl
      case hy14 => intro w hSw; obtain ⟨hS1, hS2, hS3⟩ := hSw; go_simp; try with_reducible rfl
      try simp only [Act.put, List.setIfInBounds_toArray, List.set_cons_zero, List.set_cons_succ]
      refine' wpAnyH_take (i := 2) (oi := _) (v := _) ?hi15 ?hs15 ?hf15 ?hr15 ?hQ15 (Or.inl ⟨?hw15, ?hy15⟩) (by assumption) ?hrest15
      case hi15 => simp only [List.getElem?_toArray]; rfl
      case hs15 => kernel_rfl
      case hf15 => kernel_rfl
      case hr15 => kernel_rfl
      case hQ15 => exact fun _ _ _ h => h
      case hw15 => rfl
      case hy15 => intro w hSw; obtain ⟨hS1, hS2, hS3⟩ := hSw; go_simp; try with_reducible rfl
      try simp only [Act.put, List.setIfInBounds_toArray, List.set_cons_zero, List.set_cons_succ]
      refine' wpAnyH_take (i := 3) (oi := _) (v := _) ?hi16 ?hs16 ?hf16 ?hr16 ?hQ16 (Or.inl ⟨?hw16, ?hy16⟩) (by assumption) ?hrest16
      case hi16 => simp only [List.getElem?_toArray]; rfl
      case hs16 => kernel_rfl
      case hf16 => kernel_rfl
      case hr16 => kernel_rfl
      case hQ16 => exact fun _ _ _ h => h
      case hw16 => rfl
      case hy16 => intro w hSw; obtain ⟨hS1, hS2, hS3⟩ := hSw; go_simp; try with_reducible rfl
      try simp only [Act.put, List.setIfInBounds_toArray, List.set_cons_zero, List.set_cons_succ]
      refine' wpAnyH_take (i := 4) (oi := _) (v := _) ?hi17 ?hs17 ?hf17 ?hr17 ?hQ17 (Or.inl ⟨?hw17, ?hy17⟩) (by assumption) ?hrest17
      case hi17 => simp only [List.getElem?_toArray]; rfl
      case hs17 => kernel_rfl
      case hf17 => kernel_rfl
      case hr17 => kernel_rfl
      case hQ17 => exact fun _ _ _ h => h
      case hw17 => rfl
      case hy17 => intro w hSw; obtain ⟨hS1, hS2, hS3⟩ := hSw; go_simp; try with_reducible rfl
      try simp only [Act.put, List.setIfInBounds_toArray, List.set_cons_zero, List.set_cons_succ]
      refine' wpAnyH_take (i := 5) (oi := _) (v := _) ?hi18 ?hs18 ?hf18 ?hr18 ?hQ18 (Or.inl ⟨?hw18, ?hy18⟩) (by assumption) ?hrest18
      case hi18 => simp only [List.getElem?_toArray]; rfl
      case hs18 => kernel_rfl
      case hf18 => kernel_rfl
      case hr18 => kernel_rfl
      case hQ18 => exact fun _ _ _ h => h
      case hw18 => rfl
      case hy18 => intro w hSw; obtain ⟨hS1, hS2, hS3⟩ := hSw; go_simp; try with_reducible rfl
      try simp only [Act.put, List.setIfInBounds_toArray, List.set_cons_zero, List.set_cons_succ]
      refine' wpAnyH_take (i := 6) (oi := _) (v := _) ?hi19 ?hs19 ?hf19 ?hr19 ?hQ19 (Or.inl ⟨?hw19, ?hy19⟩) (by assumption) ?hrest19
      case hi19 => simp only [List.getElem?_toArray]; rfl
      case hs19 => kernel_rfl
      case hf19 => kernel_rfl
      case hr19 => kernel_rfl
      case hQ19 => exact fun _ _ _ h => h
      case hw19 => rfl
      case hy19 => intro w hSw; obtain ⟨hS1, hS2, hS3⟩ := hSw; go_simp; try with_reducible rfl
      try simp only [Act.put, List.setIfInBounds_toArray, List.set_cons_zero, List.set_cons_succ]
      refine' wpAnyH_take (i := 7) (oi := _) (v := _) ?hi20 ?hs20 ?hf20 ?hr20 ?hQ20 (Or.inl ⟨?hw20, ?hy20⟩) (by assumption) ?hrest20
      case hi20 => simp only [List.getElem?_toArray]; rfl
      case hs20 => kernel_rfl
      case hf20 => kernel_rfl
      case hr20 => kernel_rfl
      case hQ20 => exact fun _ _ _ h => h
      case hw20 => rfl
      case hy20 => intro w hSw; obtain ⟨hS1, hS2, hS3⟩ := hSw; go_simp; try with_reducible rfl
      try simp only [Act.put, List.setIfInBounds_toArray, List.set_cons_zero, List.set_cons_succ]
      refine' wpAnyH_take (i := 8) (oi := _) (v := _) ?hi21 ?hs21 ?hf21 ?hr21 ?hQ21 (Or.inl ⟨?hw21, ?hy21⟩) (by assumption) ?hrest21
      case hi21 => simp only [List.getElem?_toArray]; rfl
      case hs21 => kernel_rfl
      case hf21 => kernel_rfl
      case hr21 => kernel_rfl
      case hQ21 => exact fun _ _ _ h => h
      case hw21 => rfl
      case hy21 => intro w hSw; obtain ⟨hS1, hS2, hS3⟩ := hSw; go_simp; try with_reducible rfl
      try simp only [Act.put, List.setIfInBounds_toArray, List.set_cons_zero, List.set_cons_succ]
      refine' wpAnyH_take (i := 9) (oi := _) (v := _) ?hi22 ?hs22 ?hf22 ?hr22 ?hQ22 (Or.inl ⟨?hw22, ?hy22⟩) (by assumption) ?hrest22
      case hi22 => simp only [List.getElem?_toArray]; rfl
      case hs22 => kernel_rfl
      case hf22 => kernel_rfl
      case hr22 => kernel_rfl
      case hQ22 => exact fun _ _ _ h => h
      case hw22 => rfl
      case hy22 => intro w hSw; obtain ⟨hS1, hS2, hS3⟩ := hSw; go_simp; try with_reducible rfl
      try simp only [Act.put, List.setIfInBounds_toArray, List.set_cons_zero, List.set_cons_succ]
      refine wpAnyH_ready (rs := [10]) (by kernel_rfl) (by simp) ?_
      refine' AllReadyH.cons (o := _) ?ho23 (fun K hK => ?hstep23) AllReadyH.nil
      case ho23 => simp only [List.getElem?_toArray]; rfl
      go_simp
      have hx2 : Ext v1 ((v1).alloc (.cells #[.string ⟨#[]⟩, .string ⟨#[]⟩, .int .i64 0, .int .i64 0, .int .i64 0] 31)).drew := (Ext.alloc v1 _).trans (Ext.drew _)
      refine hK.out _ _ ((hSx _ (HX.out.trans hx2))) (fun hHeld => ?_)
      clear hK K
      try simp only [Act.put, List.setIfInBounds_toArray, List.set_cons_zero, List.set_cons_succ]
      refine wpAnyH_ready (rs := [11]) (by kernel_rfl) (by simp) ?_
      refine' AllReadyH.cons (o := _) ?ho25 (fun K hK => ?hstep25) AllReadyH.nil
      case ho25 => simp only [List.getElem?_toArray]; rfl
      go_simp
      clear hx2
      have hx2 : Ext v ((v1).alloc (.cells #[.string ts, .string td, .int .i64 tk, .int .i64 tz, .int .i64 ta] 31)).drew := HX.out.trans ((Ext.alloc v1 _).trans (Ext.drew _))
      refine hK.out _ _ ((hSx _ hx2)) (fun hHeld => ?_)
      clear hK K
      try simp only [Act.put, List.setIfInBounds_toArray, List.set_cons_zero, List.set_cons_succ]
      refine' wpAnyH_take (i := 12) (oi := _) (v := _) ?hi27 ?hs27 ?hf27 ?hr27 ?hQ27 (Or.inl ⟨?hw27, ?hy27⟩) (by assumption) ?hrest27
      case hi27 => simp only [List.getElem?_toArray]; rfl
      case hs27 => kernel_rfl
      case hf27 => kernel_rfl
      case hr27 => kernel_rfl
      case hQ27 => exact fun _ _ _ h => h
      case hw27 => rfl
      case hy27 => intro w hSw; (try dsimp only at hSw); go_simp; try with_reducible rfl
      try simp only [Act.put, List.setIfInBounds_toArray, List.set_cons_zero, List.set_cons_succ]
      refine wpAnyH_done (by kernel_rfl) ?_ _
      have HX2 := Lib.hid hx2
      clear hx2 hSx ht hHeld
      clear c0 c1 c2 c3 c4 cg1
      obtain ⟨v2, hv2⟩ : ∃ vv : World, vv = ((v1).alloc (.cells #[.string ts, .string td, .int .i64 tk, .int .i64 tz, .int .i64 ta] 31)).drew := ⟨_, rfl⟩
      rw [← hv2] at HX2 ⊢
      clear hv2
      obtain ⟨c0, c1, c2, c3, c4, cg1⟩ := HC.out v2 HX2.out
      go_wp2_with fail
      go_ret
      exact ⟨rfl, GDid.of_ext H.out (HXV.out.trans HX2.out) hB⟩
    | none =>
      have HI := Lib.hid hi
      cases hj : intoL L r.src with
      | some q =>
        have ha : addR L r = (10, L) := by unfold addR; rw [if_neg (neg_true hrt), if_neg (by simp [hi]), if_pos (by simp [hj])]
        rw [ha]
        have HJ := Lib.hid hj
        clear hi hj
        obtain ⟨rs, rd, rk, rz, ra⟩ := r
        dsimp only at hcells hS0 hS1 hv
        have HRT := Lib.hid hrt
        have HV := Lib.hid hv
        have HXV := Lib.hid hxv
        have HC := Lib.hid hcells
        have HS0 := Lib.hid hS0
        have HS1 := Lib.hid hS1
        clear hrt hv hxv hvh ha hcells hS0 hS1
        simp only [ruleV]
        go_enter Try.func12, Try.ntmps12
        go_wp2_with fail
        rw [← HV.out]
        clear HV
        refine (right_any ⟨rs, rd, rk, rz, ra⟩ v HRO.out).mono ?_
        rintro e v1 ⟨rfl, hx⟩
        rw [HRT.out]
        obtain ⟨c0, c1, c2, c3, c4, cg1⟩ := HC.out v1 hx
        have HX := Lib.hid hx
        clear hx
        go_wp2_with fail
        obtain ⟨ts, td, tk, tz, ta, ht⟩ := ruleV_ex (intoV L rd)
        have hSx := HS1.out
        rw [ht, HI.out] at hSx
        refine wp_region_held_drew (S := fun w' => w'.cell? ⟨g, 0, none⟩ = some (.map (some b)) ∧ w'.cell? ⟨w.heap.size, 1, none⟩ = some (.string rd) ∧ (Instr.lookup 60 (.map (some b)) (.string rd) true).run Try.prog w' = .ok (.tuple #[.agg #[.string ts, .string td, .int .i64 tk, .int .i64 tz, .int .i64 ta], .bool _]) w') (by kernel_rfl) (hSx _ (HX.out.trans (Ext.drew _))) (fun hHeld => ?_)
        refine' wpAnyH_take (i := 0) (oi := _) (v := _) ?hi29 ?hs29 ?hf29 ?hr29 ?hQ29 (Or.inl ⟨?hw29, ?hy29⟩) (by assumption) ?hrest29
        case hi29 => simp only [List.getElem?_toArray]; rfl
        case hs29 => kernel_rfl
        case hf29 => kernel_rfl
        case hr29 => kernel_rfl
        case hQ29 => exact fun _ _ _ h => h
        case hw29 => rfl
        case hy29 => intro w hSw; obtain ⟨hS1, hS2, hS3⟩ := hSw; go_simp; try with_reducible rfl
        try simp only [Act.put, List.setIfInBounds_toArray, List.set_cons_zero, List.set_cons_succ]
        refine' wpAnyH_take (i := 1) (oi := _) (v := _) ?hi30 ?hs30 ?hf30 ?hr30 ?hQ30 (Or.inl ⟨?hw30, ?hy30⟩) (by assumption) ?hrest30
        case hi30 => simp only [List.getElem?_toArray]; rfl
        case hs30 => kernel_rfl
        case hf30 => kernel_rfl
        case hr30 => kernel_rfl
        case hQ30 => exact fun _ _ _ h => h
        case hw30 => rfl
        case hy30 => intro w hSw; obtain ⟨hS1, hS2, hS3⟩ := hSw; go_simp; try with_reducible rfl
        try simp only [Act.put, List.setIfInBounds_toArray, List.set_cons_zero, List.set_cons_succ]
        refine' wpAnyH_take (i := 2) (oi := _) (v := _) ?hi31 ?hs31 ?hf31 ?hr31 ?hQ31 (Or.inl ⟨?hw31, ?hy31⟩) (by assumption) ?hrest31
        case hi31 => simp only [List.getElem?_toArray]; rfl
        case hs31 => kernel_rfl
        case hf31 => kernel_rfl
        case hr31 => kernel_rfl
        case hQ31 => exact fun _ _ _ h => h
        case hw31 => rfl
        case hy31 => intro w hSw; obtain ⟨hS1, hS2, hS3⟩ := hSw; go_simp; try with_reducible rfl
        try simp only [Act.put, List.setIfInBounds_toArray, List.set_cons_zero, List.set_cons_succ]
        refine' wpAnyH_take (i := 3) (oi := _) (v := _) ?hi32 ?hs32 ?hf32 ?hr32 ?hQ32 (Or.inl ⟨?hw32, ?hy32⟩) (by assumption) ?hrest32
        case hi32 => simp only [List.getElem?_toArray]; rfl
        case hs32 => kernel_rfl
        case hf32 => kernel_rfl
        case hr32 => kernel_rfl
        case hQ32 => exact fun _ _ _ h => h
        case hw32 => rfl
        case hy32 => intro w hSw; obtain ⟨hS1, hS2, hS3⟩ := hSw; go_simp; try with_reducible rfl
        try simp only [Act.put, List.setIfInBounds_toArray, List.set_cons_zero, List.set_cons_succ]
        refine' wpAnyH_take (i := 4) (oi := _) (v := _) ?hi33 ?hs33 ?hf33 ?hr33 ?hQ33 (Or.inl ⟨?hw33, ?hy33⟩) (by assumption) ?hrest33
        case hi33 => simp only [List.getElem?_toArray]; rfl
        case hs33 => kernel_rfl
        case hf33 => kernel_rfl
        case hr33 => kernel_rfl
        case hQ33 => exact fun _ _ _ h => h
        case hw33 => rfl
        case hy33 => intro w hSw; obtain ⟨hS1, hS2, hS3⟩ := hSw; go_simp; try with_reducible rfl
        try simp only [Act.put, List.setIfInBounds_toArray, List.set_cons_zero, List.set_cons_succ]
        refine' wpAnyH_take (i := 5) (oi := _) (v := _) ?hi34 ?hs34 ?hf34 ?hr34 ?hQ34 (Or.inl ⟨?hw34, ?hy34⟩) (by assumption) ?hrest34
        case hi34 => simp only [List.getElem?_toArray]; rfl
        case hs34 => kernel_rfl
        case hf34 => kernel_rfl
        case hr34 => kernel_rfl
        case hQ34 => exact fun _ _ _ h => h
        case hw34 => rfl
        case hy34 => intro w hSw; obtain ⟨hS1, hS2, hS3⟩ := hSw; go_simp; try with_reducible rfl
        try simp only [Act.put, List.setIfInBounds_toArray, List.set_cons_zero, List.set_cons_succ]
        refine' wpAnyH_take (i := 6) (oi := _) (v := _) ?hi35 ?hs35 ?hf35 ?hr35 ?hQ35 (Or.inl ⟨?hw35, ?hy35⟩) (by assumption) ?hrest35
        case hi35 => simp only [List.getElem?_toArray]; rfl
        case hs35 => kernel_rfl
        case hf35 => kernel_rfl
        case hr35 => kernel_rfl
        case hQ35 => exact fun _ _ _ h => h
        case hw35 => rfl
        case hy35 => intro w hSw; obtain ⟨hS1, hS2, hS3⟩ := hSw; go_simp; try with_reducible rfl
        try simp only [Act.put, List.setIfInBounds_toArray, List.set_cons_zero, List.set_cons_succ]
        refine' wpAnyH_take (i := 7) (oi := _) (v := _) ?hi36 ?hs36 ?hf36 ?hr36 ?hQ36 (Or.inl ⟨?hw36, ?hy36⟩) (by assumption) ?hrest36
        case hi36 => simp only [List.getElem?_toArray]; rfl
        case hs36 => kernel_rfl
        case hf36 => kernel_rfl
        case hr36 => kernel_rfl
        case hQ36 => exact fun _ _ _ h => h
        case hw36 => rfl
        case hy36 => intro w hSw; obtain ⟨hS1, hS2, hS3⟩ := hSw; go_simp; try with_reducible rfl
        try simp only [Act.put, List.setIfInBounds_toArray, List.set_cons_zero, List.set_cons_succ]
        refine' wpAnyH_take (i := 8) (oi := _) (v := _) ?hi37 ?hs37 ?hf37 ?hr37 ?hQ37 (Or.inl ⟨?hw37, ?hy37⟩) (by assumption) ?hrest37
        case hi37 => simp only [List.getElem?_toArray]; rfl
        case hs37 => kernel_rfl
        case hf37 => kernel_rfl
        case hr37 => kernel_rfl
        case hQ37 => exact fun _ _ _ h => h
        case hw37 => rfl
        case hy37 => intro w hSw; obtain ⟨hS1, hS2, hS3⟩ := hSw; go_simp; try with_reducible rfl
        try simp only [Act.put, List.setIfInBounds_toArray, List.set_cons_zero, List.set_cons_succ]
        refine' wpAnyH_take (i := 9) (oi := _) (v := _) ?hi38 ?hs38 ?hf38 ?hr38 ?hQ38 (Or.inl ⟨?hw38, ?hy38⟩) (by assumption) ?hrest38
        case hi38 => simp only [List.getElem?_toArray]; rfl
        case hs38 => kernel_rfl
        case hf38 => kernel_rfl
        case hr38 => kernel_rfl
        case hQ38 => exact fun _ _ _ h => h
        case hw38 => rfl
        case hy38 => intro w hSw; obtain ⟨hS1, hS2, hS3⟩ := hSw; go_simp; try with_reducible rfl
        try simp only [Act.put, List.setIfInBounds_toArray, List.set_cons_zero, List.set_cons_succ]
        refine wpAnyH_ready (rs := [10]) (by kernel_rfl) (by simp) ?_
        refine' AllReadyH.cons (o := _) ?ho39 (fun K hK => ?hstep39) AllReadyH.nil
        case ho39 => simp only [List.getElem?_toArray]; rfl
        go_simp
        have hx2 : Ext v1 ((v1).alloc (.cells #[.string ⟨#[]⟩, .string ⟨#[]⟩, .int .i64 0, .int .i64 0, .int .i64 0] 31)).drew := (Ext.alloc v1 _).trans (Ext.drew _)
        refine hK.out _ _ ((hSx _ (HX.out.trans hx2))) (fun hHeld => ?_)
        clear hK K
        try simp only [Act.put, List.setIfInBounds_toArray, List.set_cons_zero, List.set_cons_succ]
        refine wpAnyH_ready (rs := [11]) (by kernel_rfl) (by simp) ?_
        refine' AllReadyH.cons (o := _) ?ho41 (fun K hK => ?hstep41) AllReadyH.nil
        case ho41 => simp only [List.getElem?_toArray]; rfl
        go_simp
        clear hx2
        have hx2 : Ext v ((v1).alloc (.cells #[.string ts, .string td, .int .i64 tk, .int .i64 tz, .int .i64 ta] 31)).drew := HX.out.trans ((Ext.alloc v1 _).trans (Ext.drew _))
        refine hK.out _ _ ((hSx _ hx2)) (fun hHeld => ?_)
        clear hK K
        try simp only [Act.put, List.setIfInBounds_toArray, List.set_cons_zero, List.set_cons_succ]
        refine' wpAnyH_take (i := 12) (oi := _) (v := _) ?hi43 ?hs43 ?hf43 ?hr43 ?hQ43 (Or.inl ⟨?hw43, ?hy43⟩) (by assumption) ?hrest43
        case hi43 => simp only [List.getElem?_toArray]; rfl
        case hs43 => kernel_rfl
        case hf43 => kernel_rfl
        case hr43 => kernel_rfl
        case hQ43 => exact fun _ _ _ h => h
        case hw43 => rfl
        case hy43 => intro w hSw; (try dsimp only at hSw); go_simp; try with_reducible rfl
        try simp only [Act.put, List.setIfInBounds_toArray, List.set_cons_zero, List.set_cons_succ]
        refine wpAnyH_done (by kernel_rfl) ?_ _
        have HX2 := Lib.hid hx2
        clear hx2 hSx ht hHeld
        clear c0 c1 c2 c3 c4 cg1
        obtain ⟨v2, hv2⟩ : ∃ vv : World, vv = ((v1).alloc (.cells #[.string ts, .string td, .int .i64 tk, .int .i64 tz, .int .i64 ta] 31)).drew := ⟨_, rfl⟩
        rw [← hv2] at HX2 ⊢
        clear hv2
        obtain ⟨c0, c1, c2, c3, c4, cg1⟩ := HC.out v2 HX2.out
        go_wp2_with fail
        clear HX
        have HX := HX2
        clear HX2
        obtain ⟨ts, td, tk, tz, ta, ht⟩ := ruleV_ex (intoV L rs)
        have hSx := HS0.out
        rw [ht, HJ.out] at hSx
        refine wp_region_held_drew (S := fun w' => w'.cell? ⟨g, 0, none⟩ = some (.map (some b)) ∧ w'.cell? ⟨w.heap.size, 0, none⟩ = some (.string rs) ∧ (Instr.lookup 60 (.map (some b)) (.string rs) true).run Try.prog w' = .ok (.tuple #[.agg #[.string ts, .string td, .int .i64 tk, .int .i64 tz, .int .i64 ta], .bool _]) w') (by kernel_rfl) (hSx _ (HX.out.trans (Ext.drew _))) (fun hHeld => ?_)
        refine' wpAnyH_take (i := 0) (oi := _) (v := _) ?hi45 ?hs45 ?hf45 ?hr45 ?hQ45 (Or.inl ⟨?hw45, ?hy45⟩) (by assumption) ?hrest45
        case hi45 => simp only [List.getElem?_toArray]; rfl
        case hs45 => kernel_rfl
        case hf45 => kernel_rfl
        case hr45 => kernel_rfl
        case hQ45 => exact fun _ _ _ h => h
        case hw45 => rfl
        case hy45 => intro w hSw; obtain ⟨hS1, hS2, hS3⟩ := hSw; go_simp; try with_reducible rfl
        try simp only [Act.put, List.setIfInBounds_toArray, List.set_cons_zero, List.set_cons_succ]
        refine' wpAnyH_take (i := 1) (oi := _) (v := _) ?hi46 ?hs46 ?hf46 ?hr46 ?hQ46 (Or.inl ⟨?hw46, ?hy46⟩) (by assumption) ?hrest46
        case hi46 => simp only [List.getElem?_toArray]; rfl
        case hs46 => kernel_rfl
        case hf46 => kernel_rfl
        case hr46 => kernel_rfl
        case hQ46 => exact fun _ _ _ h => h
        case hw46 => rfl
        case hy46 => intro w hSw; obtain ⟨hS1, hS2, hS3⟩ := hSw; go_simp; try with_reducible rfl
        try simp only [Act.put, List.setIfInBounds_toArray, List.set_cons_zero, List.set_cons_succ]
        refine' wpAnyH_take (i := 2) (oi := _) (v := _) ?hi47 ?hs47 ?hf47 ?hr47 ?hQ47 (Or.inl ⟨?hw47, ?hy47⟩) (by assumption) ?hrest47
        case hi47 => simp only [List.getElem?_toArray]; rfl
        case hs47 => kernel_rfl
        case hf47 => kernel_rfl
        case hr47 => kernel_rfl
        case hQ47 => exact fun _ _ _ h => h
        case hw47 => rfl
        case hy47 => intro w hSw; obtain ⟨hS1, hS2, hS3⟩ := hSw; go_simp; try with_reducible rfl
        try simp only [Act.put, List.setIfInBounds_toArray, List.set_cons_zero, List.set_cons_succ]
        refine' wpAnyH_take (i := 3) (oi := _) (v := _) ?hi48 ?hs48 ?hf48 ?hr48 ?hQ48 (Or.inl ⟨?hw48, ?hy48⟩) (by assumption) ?hrest48
        case hi48 => simp only [List.getElem?_toArray]; rfl
        case hs48 => kernel_rfl
        case hf48 => kernel_rfl
        case hr48 => kernel_rfl
        case hQ48 => exact fun _ _ _ h => h
        case hw48 => rfl
        case hy48 => intro w hSw; obtain ⟨hS1, hS2, hS3⟩ := hSw; go_simp; try with_reducible rfl
        try simp only [Act.put, List.setIfInBounds_toArray, List.set_cons_zero, List.set_cons_succ]
        refine' wpAnyH_take (i := 4) (oi := _) (v := _) ?hi49 ?hs49 ?hf49 ?hr49 ?hQ49 (Or.inl ⟨?hw49, ?hy49⟩) (by assumption) ?hrest49
        case hi49 => simp only [List.getElem?_toArray]; rfl
        case hs49 => kernel_rfl
        case hf49 => kernel_rfl
        case hr49 => kernel_rfl
        case hQ49 => exact fun _ _ _ h => h
        case hw49 => rfl
        case hy49 => intro w hSw; obtain ⟨hS1, hS2, hS3⟩ := hSw; go_simp; try with_reducible rfl
        try simp only [Act.put, List.setIfInBounds_toArray, List.set_cons_zero, List.set_cons_succ]
        refine' wpAnyH_take (i := 5) (oi := _) (v := _) ?hi50 ?hs50 ?hf50 ?hr50 ?hQ50 (Or.inl ⟨?hw50, ?hy50⟩) (by assumption) ?hrest50
        case hi50 => simp only [List.getElem?_toArray]; rfl
        case hs50 => kernel_rfl
        case hf50 => kernel_rfl
        case hr50 => kernel_rfl
        case hQ50 => exact fun _ _ _ h => h
        case hw50 => rfl
        case hy50 => intro w hSw; obtain ⟨hS1, hS2, hS3⟩ := hSw; go_simp; try with_reducible rfl
        try simp only [Act.put, List.setIfInBounds_toArray, List.set_cons_zero, List.set_cons_succ]
        refine' wpAnyH_take (i := 6) (oi := _) (v := _) ?hi51 ?hs51 ?hf51 ?hr51 ?hQ51 (Or.inl ⟨?hw51, ?hy51⟩) (by assumption) ?hrest51
        case hi51 => simp only [List.getElem?_toArray]; rfl
        case hs51 => kernel_rfl
        case hf51 => kernel_rfl
        case hr51 => kernel_rfl
        case hQ51 => exact fun _ _ _ h => h
        case hw51 => rfl
        case hy51 => intro w hSw; obtain ⟨hS1, hS2, hS3⟩ := hSw; go_simp; try with_reducible rfl
        try simp only [Act.put, List.setIfInBounds_toArray, List.set_cons_zero, List.set_cons_succ]
        refine' wpAnyH_take (i := 7) (oi := _) (v := _) ?hi52 ?hs52 ?hf52 ?hr52 ?hQ52 (Or.inl ⟨?hw52, ?hy52⟩) (by assumption) ?hrest52
        case hi52 => simp only [List.getElem?_toArray]; rfl
        case hs52 => kernel_rfl
        case hf52 => kernel_rfl
        case hr52 => kernel_rfl
        case hQ52 => exact fun _ _ _ h => h
        case hw52 => rfl
        case hy52 => intro w hSw; obtain ⟨hS1, hS2, hS3⟩ := hSw; go_simp; try with_reducible rfl
        try simp only [Act.put, List.setIfInBounds_toArray, List.set_cons_zero, List.set_cons_succ]
        refine' wpAnyH_take (i := 8) (oi := _) (v := _) ?hi53 ?hs53 ?hf53 ?hr53 ?hQ53 (Or.inl ⟨?hw53, ?hy53⟩) (by assumption) ?hrest53
        case hi53 => simp only [List.getElem?_toArray]; rfl
        case hs53 => kernel_rfl
        case hf53 => kernel_rfl
        case hr53 => kernel_rfl
        case hQ53 => exact fun _ _ _ h => h
        case hw53 => rfl
        case hy53 => intro w hSw; obtain ⟨hS1, hS2, hS3⟩ := hSw; go_simp; try with_reducible rfl
        try simp only [Act.put, List.setIfInBounds_toArray, List.set_cons_zero, List.set_cons_succ]
        refine' wpAnyH_take (i := 9) (oi := _) (v := _) ?hi54 ?hs54 ?hf54 ?hr54 ?hQ54 (Or.inl ⟨?hw54, ?hy54⟩) (by assumption) ?hrest54
        case hi54 => simp only [List.getElem?_toArray]; rfl
        case hs54 => kernel_rfl
        case hf54 => kernel_rfl
        case hr54 => kernel_rfl
        case hQ54 => exact fun _ _ _ h => h
        case hw54 => rfl
        case hy54 => intro w hSw; obtain ⟨hS1, hS2, hS3⟩ := hSw; go_simp; try with_reducible rfl
        try simp only [Act.put, List.setIfInBounds_toArray, List.set_cons_zero, List.set_cons_succ]
        refine wpAnyH_ready (rs := [10]) (by kernel_rfl) (by simp) ?_
        refine' AllReadyH.cons (o := _) ?ho55 (fun K hK => ?hstep55) AllReadyH.nil
        case ho55 => simp only [List.getElem?_toArray]; rfl
        go_simp
        have hx2 : Ext v2 ((v2).alloc (.cells #[.string ⟨#[]⟩, .string ⟨#[]⟩, .int .i64 0, .int .i64 0, .int .i64 0] 31)).drew := (Ext.alloc v2 _).trans (Ext.drew _)
        refine hK.out _ _ ((hSx _ (HX.out.trans hx2))) (fun hHeld => ?_)
        clear hK K
        try simp only [Act.put, List.setIfInBounds_toArray, List.set_cons_zero, List.set_cons_succ]
        refine wpAnyH_ready (rs := [11]) (by kernel_rfl) (by simp) ?_
        refine' AllReadyH.cons (o := _) ?ho57 (fun K hK => ?hstep57) AllReadyH.nil
        case ho57 => simp only [List.getElem?_toArray]; rfl
        go_simp
        clear hx2
        have hx2 : Ext v ((v2).alloc (.cells #[.string ts, .string td, .int .i64 tk, .int .i64 tz, .int .i64 ta] 31)).drew := HX.out.trans ((Ext.alloc v2 _).trans (Ext.drew _))
        refine hK.out _ _ ((hSx _ hx2)) (fun hHeld => ?_)
        clear hK K
        try simp only [Act.put, List.setIfInBounds_toArray, List.set_cons_zero, List.set_cons_succ]
        refine' wpAnyH_take (i := 12) (oi := _) (v := _) ?hi59 ?hs59 ?hf59 ?hr59 ?hQ59 (Or.inl ⟨?hw59, ?hy59⟩) (by assumption) ?hrest59
        case hi59 => simp only [List.getElem?_toArray]; rfl
        case hs59 => kernel_rfl
        case hf59 => kernel_rfl
        case hr59 => kernel_rfl
        case hQ59 => exact fun _ _ _ h => h
        case hw59 => rfl
        case hy59 => intro w hSw; (try dsimp only at hSw); go_simp; try with_reducible rfl
        try simp only [Act.put, List.setIfInBounds_toArray, List.set_cons_zero, List.set_cons_succ]
        refine wpAnyH_done (by kernel_rfl) ?_ _
        have HX2 := Lib.hid hx2
        clear hx2 hSx ht hHeld
        clear c0 c1 c2 c3 c4 cg1
        obtain ⟨v3, hv2⟩ : ∃ vv : World, vv = ((v2).alloc (.cells #[.string ts, .string td, .int .i64 tk, .int .i64 tz, .int .i64 ta] 31)).drew := ⟨_, rfl⟩
        rw [← hv2] at HX2 ⊢
        clear hv2
        obtain ⟨c0, c1, c2, c3, c4, cg1⟩ := HC.out v3 HX2.out
        go_wp2_with fail
        go_ret
        exact ⟨rfl, GDid.of_ext H.out (HXV.out.trans HX2.out) hB⟩
      | none =>
        have HJ := Lib.hid hj
        by_cases hpos : 0 < (ofL L r.dst).length
        · have ha : addR L r = (10, L) := by unfold addR; rw [if_neg (neg_true hrt), if_neg (by simp [hi]), if_pos (by simp [hpos])]
          rw [ha]
          clear hi hj
          obtain ⟨rs, rd, rk, rz, ra⟩ := r
          dsimp only at hcells hS0 hS1 hv
          have HRT := Lib.hid hrt
          have HV := Lib.hid hv
          have HXV := Lib.hid hxv
          have HC := Lib.hid hcells
          have HS0 := Lib.hid hS0
          have HS1 := Lib.hid hS1
          clear hrt hv hxv hvh ha hcells hS0 hS1
          simp only [ruleV]
          go_enter Try.func12, Try.ntmps12
          go_wp2_with fail
          rw [← HV.out]
          clear HV
          refine (right_any ⟨rs, rd, rk, rz, ra⟩ v HRO.out).mono ?_
          rintro e v1 ⟨rfl, hx⟩
          rw [HRT.out]
          obtain ⟨c0, c1, c2, c3, c4, cg1⟩ := HC.out v1 hx
          have HX := Lib.hid hx
          clear hx
          go_wp2_with fail
          obtain ⟨ts, td, tk, tz, ta, ht⟩ := ruleV_ex (intoV L rd)
          have hSx := HS1.out
          rw [ht, HI.out] at hSx
          refine wp_region_held_drew (S := fun w' => w'.cell? ⟨g, 0, none⟩ = some (.map (some b)) ∧ w'.cell? ⟨w.heap.size, 1, none⟩ = some (.string rd) ∧ (Instr.lookup 60 (.map (some b)) (.string rd) true).run Try.prog w' = .ok (.tuple #[.agg #[.string ts, .string td, .int .i64 tk, .int .i64 tz, .int .i64 ta], .bool _]) w') (by kernel_rfl) (hSx _ (HX.out.trans (Ext.drew _))) (fun hHeld => ?_)
          refine' wpAnyH_take (i := 0) (oi := _) (v := _) ?hi61 ?hs61 ?hf61 ?hr61 ?hQ61 (Or.inl ⟨?hw61, ?hy61⟩) (by assumption) ?hrest61
          case hi61 => simp only [List.getElem?_toArray]; rfl
          case hs61 => kernel_rfl
          case hf61 => kernel_rfl
          case hr61 => kernel_rfl
          case hQ61 => exact fun _ _ _ h => h
          case hw61 => rfl
          case hy61 => intro w hSw; obtain ⟨hS1, hS2, hS3⟩ := hSw; go_simp; try with_reducible rfl
          try simp only [Act.put, List.setIfInBounds_toArray, List.set_cons_zero, List.set_cons_succ]
          refine' wpAnyH_take (i := 1) (oi := _) (v := _) ?hi62 ?hs62 ?hf62 ?hr62 ?hQ62 (Or.inl ⟨?hw62, ?hy62⟩) (by assumption) ?hrest62
          case hi62 => simp only [List.getElem?_toArray]; rfl
          case hs62 => kernel_rfl
          case hf62 => kernel_rfl
          case hr62 => kernel_rfl
          case hQ62 => exact fun _ _ _ h => h
          case hw62 => rfl
          case hy62 => intro w hSw; obtain ⟨hS1, hS2, hS3⟩ := hSw; go_simp; try with_reducible rfl
          try simp only [Act.put, List.setIfInBounds_toArray, List.set_cons_zero, List.set_cons_succ]
          refine' wpAnyH_take (i := 2) (oi := _) (v := _) ?hi63 ?hs63 ?hf63 ?hr63 ?hQ63 (Or.inl ⟨?hw63, ?hy63⟩) (by assumption) ?hrest63
          case hi63 => simp only [List.getElem?_toArray]; rfl
          case hs63 => kernel_rfl
          case hf63 => kernel_rfl
          case hr63 => kernel_rfl
          case hQ63 => exact fun _ _ _ h => h
          case hw63 => rfl
          case hy63 => intro w hSw; obtain ⟨hS1, hS2, hS3⟩ := hSw; go_simp; try with_reducible rfl
          try simp only [Act.put, List.setIfInBounds_toArray, List.set_cons_zero, List.set_cons_succ]
          refine' wpAnyH_take (i := 3) (oi := _) (v := _) ?hi64 ?hs64 ?hf64 ?hr64 ?hQ64 (Or.inl ⟨?hw64, ?hy64⟩) (by assumption) ?hrest64
          case hi64 => simp only [List.getElem?_toArray]; rfl
          case hs64 => kernel_rfl
          case hf64 => kernel_rfl
          case hr64 => kernel_rfl
          case hQ64 => exact fun _ _ _ h => h
          case hw64 => rfl
          case hy64 => intro w hSw; obtain ⟨hS1, hS2, hS3⟩ := hSw; go_simp; try with_reducible rfl
          try simp only [Act.put, List.setIfInBounds_toArray, List.set_cons_zero, List.set_cons_succ]
          refine' wpAnyH_take (i := 4) (oi := _) (v := _) ?hi65 ?hs65 ?hf65 ?hr65 ?hQ65 (Or.inl ⟨?hw65, ?hy65⟩) (by assumption) ?hrest65
          case hi65 => simp only [List.getElem?_toArray]; rfl
          case hs65 => kernel_rfl
          case hf65 => kernel_rfl
          case hr65 => kernel_rfl
          case hQ65 => exact fun _ _ _ h => h
          case hw65 => rfl
          case hy65 => intro w hSw; obtain ⟨hS1, hS2, hS3⟩ := hSw; go_simp; try with_reducible rfl
          try simp only [Act.put, List.setIfInBounds_toArray, List.set_cons_zero, List.set_cons_succ]
          refine' wpAnyH_take (i := 5) (oi := _) (v := _) ?hi66 ?hs66 ?hf66 ?hr66 ?hQ66 (Or.inl ⟨?hw66, ?hy66⟩) (by assumption) ?hrest66
          case hi66 => simp only [List.getElem?_toArray]; rfl
          case hs66 => kernel_rfl
          case hf66 => kernel_rfl
          case hr66 => kernel_rfl
          case hQ66 => exact fun _ _ _ h => h
          case hw66 => rfl
          case hy66 => intro w hSw; obtain ⟨hS1, hS2, hS3⟩ := hSw; go_simp; try with_reducible rfl
          try simp only [Act.put, List.setIfInBounds_toArray, List.set_cons_zero, List.set_cons_succ]
          refine' wpAnyH_take (i := 6) (oi := _) (v := _) ?hi67 ?hs67 ?hf67 ?hr67 ?hQ67 (Or.inl ⟨?hw67, ?hy67⟩) (by assumption) ?hrest67
          case hi67 => simp only [List.getElem?_toArray]; rfl
          case hs67 => kernel_rfl
          case hf67 => kernel_rfl
          case hr67 => kernel_rfl
          case hQ67 => exact fun _ _ _ h => h
          case hw67 => rfl
          case hy67 => intro w hSw; obtain ⟨hS1, hS2, hS3⟩ := hSw; go_simp; try with_reducible rfl
          try simp only [Act.put, List.setIfInBounds_toArray, List.set_cons_zero, List.set_cons_succ]
          refine' wpAnyH_take (i := 7) (oi := _) (v := _) ?hi68 ?hs68 ?hf68 ?hr68 ?hQ68 (Or.inl ⟨?hw68, ?hy68⟩) (by assumption) ?hrest68
          case hi68 => simp only [List.getElem?_toArray]; rfl
          case hs68 => kernel_rfl
          case hf68 => kernel_rfl
          case hr68 => kernel_rfl
          case hQ68 => exact fun _ _ _ h => h
          case hw68 => rfl
          case hy68 => intro w hSw; obtain ⟨hS1, hS2, hS3⟩ := hSw; go_simp; try with_reducible rfl
          try simp only [Act.put, List.setIfInBounds_toArray, List.set_cons_zero, List.set_cons_succ]
          refine' wpAnyH_take (i := 8) (oi := _) (v := _) ?hi69 ?hs69 ?hf69 ?hr69 ?hQ69 (Or.inl ⟨?hw69, ?hy69⟩) (by assumption) ?hrest69
          case hi69 => simp only [List.getElem?_toArray]; rfl
          case hs69 => kernel_rfl
          case hf69 => kernel_rfl
          case hr69 => kernel_rfl
          case hQ69 => exact fun _ _ _ h => h
          case hw69 => rfl
          case hy69 => intro w hSw; obtain ⟨hS1, hS2, hS3⟩ := hSw; go_simp; try with_reducible rfl
          try simp only [Act.put, List.setIfInBounds_toArray, List.set_cons_zero, List.set_cons_succ]
          refine' wpAnyH_take (i := 9) (oi := _) (v := _) ?hi70 ?hs70 ?hf70 ?hr70 ?hQ70 (Or.inl ⟨?hw70, ?hy70⟩) (by assumption) ?hrest70
          case hi70 => simp only [List.getElem?_toArray]; rfl
          case hs70 => kernel_rfl
          case hf70 => kernel_rfl
          case hr70 => kernel_rfl
          case hQ70 => exact fun _ _ _ h => h
          case hw70 => rfl
          case hy70 => intro w hSw; obtain ⟨hS1, hS2, hS3⟩ := hSw; go_simp; try with_reducible rfl
          try simp only [Act.put, List.setIfInBounds_toArray, List.set_cons_zero, List.set_cons_succ]
          refine wpAnyH_ready (rs := [10]) (by kernel_rfl) (by simp) ?_
          refine' AllReadyH.cons (o := _) ?ho71 (fun K hK => ?hstep71) AllReadyH.nil
          case ho71 => simp only [List.getElem?_toArray]; rfl
          go_simp
          have hx2 : Ext v1 ((v1).alloc (.cells #[.string ⟨#[]⟩, .string ⟨#[]⟩, .int .i64 0, .int .i64 0, .int .i64 0] 31)).drew := (Ext.alloc v1 _).trans (Ext.drew _)
          refine hK.out _ _ ((hSx _ (HX.out.trans hx2))) (fun hHeld => ?_)
          clear hK K
          try simp only [Act.put, List.setIfInBounds_toArray, List.set_cons_zero, List.set_cons_succ]
          refine wpAnyH_ready (rs := [11]) (by kernel_rfl) (by simp) ?_
          refine' AllReadyH.cons (o := _) ?ho73 (fun K hK => ?hstep73) AllReadyH.nil
          case ho73 => simp only [List.getElem?_toArray]; rfl
          go_simp
          clear hx2
          have hx2 : Ext v ((v1).alloc (.cells #[.string ts, .string td, .int .i64 tk, .int .i64 tz, .int .i64 ta] 31)).drew := HX.out.trans ((Ext.alloc v1 _).trans (Ext.drew _))
          refine hK.out _ _ ((hSx _ hx2)) (fun hHeld => ?_)
          clear hK K
          try simp only [Act.put, List.setIfInBounds_toArray, List.set_cons_zero, List.set_cons_succ]
          refine' wpAnyH_take (i := 12) (oi := _) (v := _) ?hi75 ?hs75 ?hf75 ?hr75 ?hQ75 (Or.inl ⟨?hw75, ?hy75⟩) (by assumption) ?hrest75
          case hi75 => simp only [List.getElem?_toArray]; rfl
          case hs75 => kernel_rfl
          case hf75 => kernel_rfl
          case hr75 => kernel_rfl
          case hQ75 => exact fun _ _ _ h => h
          case hw75 => rfl
          case hy75 => intro w hSw; (try dsimp only at hSw); go_simp; try with_reducible rfl
          try simp only [Act.put, List.setIfInBounds_toArray, List.set_cons_zero, List.set_cons_succ]
          refine wpAnyH_done (by kernel_rfl) ?_ _
          have HX2 := Lib.hid hx2
          clear hx2 hSx ht hHeld
          clear c0 c1 c2 c3 c4 cg1
          obtain ⟨v2, hv2⟩ : ∃ vv : World, vv = ((v1).alloc (.cells #[.string ts, .string td, .int .i64 tk, .int .i64 tz, .int .i64 ta] 31)).drew := ⟨_, rfl⟩
          rw [← hv2] at HX2 ⊢
          clear hv2
          obtain ⟨c0, c1, c2, c3, c4, cg1⟩ := HC.out v2 HX2.out
          go_wp2_with fail
          clear HX
          have HX := HX2
          clear HX2
          obtain ⟨ts, td, tk, tz, ta, ht⟩ := ruleV_ex (intoV L rs)
          have hSx := HS0.out
          rw [ht, HJ.out] at hSx
          refine wp_region_held_drew (S := fun w' => w'.cell? ⟨g, 0, none⟩ = some (.map (some b)) ∧ w'.cell? ⟨w.heap.size, 0, none⟩ = some (.string rs) ∧ (Instr.lookup 60 (.map (some b)) (.string rs) true).run Try.prog w' = .ok (.tuple #[.agg #[.string ts, .string td, .int .i64 tk, .int .i64 tz, .int .i64 ta], .bool _]) w') (by kernel_rfl) (hSx _ (HX.out.trans (Ext.drew _))) (fun hHeld => ?_)
          refine' wpAnyH_take (i := 0) (oi := _) (v := _) ?hi77 ?hs77 ?hf77 ?hr77 ?hQ77 (Or.inl ⟨?hw77, ?hy77⟩) (by assumption) ?hrest77
          case hi77 => simp only [List.getElem?_toArray]; rfl
          case hs77 => kernel_rfl
          case hf77 => kernel_rfl
          case hr77 => kernel_rfl
          case hQ77 => exact fun _ _ _ h => h
          case hw77 => rfl
          case hy77 => intro w hSw; obtain ⟨hS1, hS2, hS3⟩ := hSw; go_simp; try with_reducible rfl
          try simp only [Act.put, List.setIfInBounds_toArray, List.set_cons_zero, List.set_cons_succ]
          refine' wpAnyH_take (i := 1) (oi := _) (v := _) ?hi78 ?hs78 ?hf78 ?hr78 ?hQ78 (Or.inl ⟨?hw78, ?hy78⟩) (by assumption) ?hrest78
          case hi78 => simp only [List.getElem?_toArray]; rfl
          case hs78 => kernel_rfl
          case hf78 => kernel_rfl
          case hr78 => kernel_rfl
          case hQ78 => exact fun _ _ _ h => h
          case hw78 => rfl
          case hy78 => intro w hSw; obtain ⟨hS1, hS2, hS3⟩ := hSw; go_simp; try with_reducible rfl
          try simp only [Act.put, List.setIfInBounds_toArray, List.set_cons_zero, List.set_cons_succ]
          refine' wpAnyH_take (i := 2) (oi := _) (v := _) ?hi79 ?hs79 ?hf79 ?hr79 ?hQ79 (Or.inl ⟨?hw79, ?hy79⟩) (by assumption) ?hrest79
          case hi79 => simp only [List.getElem?_toArray]; rfl
          case hs79 => kernel_rfl
          case hf79 => kernel_rfl
          case hr79 => kernel_rfl
          case hQ79 => exact fun _ _ _ h => h
          case hw79 => rfl
          case hy79 => intro w hSw; obtain ⟨hS1, hS2, hS3⟩ := hSw; go_simp; try with_reducible rfl
          try simp only [Act.put, List.setIfInBounds_toArray, List.set_cons_zero, List.set_cons_succ]
          refine' wpAnyH_take (i := 3) (oi := _) (v := _) ?hi80 ?hs80 ?hf80 ?hr80 ?hQ80 (Or.inl ⟨?hw80, ?hy80⟩) (by assumption) ?hrest80
          case hi80 => simp only [List.getElem?_toArray]; rfl
          case hs80 => kernel_rfl
          case hf80 => kernel_rfl
          case hr80 => kernel_rfl
          case hQ80 => exact fun _ _ _ h => h
          case hw80 => rfl
          case hy80 => intro w hSw; obtain ⟨hS1, hS2, hS3⟩ := hSw; go_simp; try with_reducible rfl
          try simp only [Act.put, List.setIfInBounds_toArray, List.set_cons_zero, List.set_cons_succ]
          refine' wpAnyH_take (i := 4) (oi := _) (v := _) ?hi81 ?hs81 ?hf81 ?hr81 ?hQ81 (Or.inl ⟨?hw81, ?hy81⟩) (by assumption) ?hrest81
          case hi81 => simp only [List.getElem?_toArray]; rfl
          case hs81 => kernel_rfl
          case hf81 => kernel_rfl
          case hr81 => kernel_rfl
          case hQ81 => exact fun _ _ _ h => h
          case hw81 => rfl
          case hy81 => intro w hSw; obtain ⟨hS1, hS2, hS3⟩ := hSw; go_simp; try with_reducible rfl
          try simp only [Act.put, List.setIfInBounds_toArray, List.set_cons_zero, List.set_cons_succ]
          refine' wpAnyH_take (i := 5) (oi := _) (v := _) ?hi82 ?hs82 ?hf82 ?hr82 ?hQ82 (Or.inl ⟨?hw82, ?hy82⟩) (by assumption) ?hrest82
          case hi82 => simp only [List.getElem?_toArray]; rfl
          case hs82 => kernel_rfl
          case hf82 => kernel_rfl
          case hr82 => kernel_rfl
          case hQ82 => exact fun _ _ _ h => h
          case hw82 => rfl
          case hy82 => intro w hSw; obtain ⟨hS1, hS2, hS3⟩ := hSw; go_simp; try with_reducible rfl
          try simp only [Act.put, List.setIfInBounds_toArray, List.set_cons_zero, List.set_cons_succ]
          refine' wpAnyH_take (i := 6) (oi := _) (v := _) ?hi83 ?hs83 ?hf83 ?hr83 ?hQ83 (Or.inl ⟨?hw83, ?hy83⟩) (by assumption) ?hrest83
          case hi83 => simp only [List.getElem?_toArray]; rfl
          case hs83 => kernel_rfl
          case hf83 => kernel_rfl
          case hr83 => kernel_rfl
          case hQ83 => exact fun _ _ _ h => h
          case hw83 => rfl
          case hy83 => intro w hSw; obtain ⟨hS1, hS2, hS3⟩ := hSw; go_simp; try with_reducible rfl
          try simp only [Act.put, List.setIfInBounds_toArray, List.set_cons_zero, List.set_cons_succ]
          refine' wpAnyH_take (i := 7) (oi := _) (v := _) ?hi84 ?hs84 ?hf84 ?hr84 ?hQ84 (Or.inl ⟨?hw84, ?hy84⟩) (by assumption) ?hrest84
          case hi84 => simp only [List.getElem?_toArray]; rfl
          case hs84 => kernel_rfl
          case hf84 => kernel_rfl
          case hr84 => kernel_rfl
          case hQ84 => exact fun _ _ _ h => h
          case hw84 => rfl
          case hy84 => intro w hSw; obtain ⟨hS1, hS2, hS3⟩ := hSw; go_simp; try with_reducible rfl
          try simp only [Act.put, List.setIfInBounds_toArray, List.set_cons_zero, List.set_cons_succ]
          refine' wpAnyH_take (i := 8) (oi := _) (v := _) ?hi85 ?hs85 ?hf85 ?hr85 ?hQ85 (Or.inl ⟨?hw85, ?hy85⟩) (by assumption) ?hrest85
          case hi85 => simp only [List.getElem?_toArray]; rfl
          case hs85 => kernel_rfl
          case hf85 => kernel_rfl
          case hr85 => kernel_rfl
          case hQ85 => exact fun _ _ _ h => h
          case hw85 => rfl
          case hy85 => intro w hSw; obtain ⟨hS1, hS2, hS3⟩ := hSw; go_simp; try with_reducible rfl
          try simp only [Act.put, List.setIfInBounds_toArray, List.set_cons_zero, List.set_cons_succ]
          refine' wpAnyH_take (i := 9) (oi := _) (v := _) ?hi86 ?hs86 ?hf86 ?hr86 ?hQ86 (Or.inl ⟨?hw86, ?hy86⟩) (by assumption) ?hrest86
          case hi86 => simp only [List.getElem?_toArray]; rfl
          case hs86 => kernel_rfl
          case hf86 => kernel_rfl
          case hr86 => kernel_rfl
          case hQ86 => exact fun _ _ _ h => h
          case hw86 => rfl
          case hy86 => intro w hSw; obtain ⟨hS1, hS2, hS3⟩ := hSw; go_simp; try with_reducible rfl
          try simp only [Act.put, List.setIfInBounds_toArray, List.set_cons_zero, List.set_cons_succ]
          refine wpAnyH_ready (rs := [10]) (by kernel_rfl) (by simp) ?_
          refine' AllReadyH.cons (o := _) ?ho87 (fun K hK => ?hstep87) AllReadyH.nil
          case ho87 => simp only [List.getElem?_toArray]; rfl
          go_simp
          have hx2 : Ext v2 ((v2).alloc (.cells #[.string ⟨#[]⟩, .string ⟨#[]⟩, .int .i64 0, .int .i64 0, .int .i64 0] 31)).drew := (Ext.alloc v2 _).trans (Ext.drew _)
          refine hK.out _ _ ((hSx _ (HX.out.trans hx2))) (fun hHeld => ?_)
          clear hK K
          try simp only [Act.put, List.setIfInBounds_toArray, List.set_cons_zero, List.set_cons_succ]
          refine wpAnyH_ready (rs := [11]) (by kernel_rfl) (by simp) ?_
          refine' AllReadyH.cons (o := _) ?ho89 (fun K hK => ?hstep89) AllReadyH.nil
          case ho89 => simp only [List.getElem?_toArray]; rfl
          go_simp
          clear hx2
          have hx2 : Ext v ((v2).alloc (.cells #[.string ts, .string td, .int .i64 tk, .int .i64 tz, .int .i64 ta] 31)).drew := HX.out.trans ((Ext.alloc v2 _).trans (Ext.drew _))
          refine hK.out _ _ ((hSx _ hx2)) (fun hHeld => ?_)
          clear hK K
          try simp only [Act.put, List.setIfInBounds_toArray, List.set_cons_zero, List.set_cons_succ]
          refine' wpAnyH_take (i := 12) (oi := _) (v := _) ?hi91 ?hs91 ?hf91 ?hr91 ?hQ91 (Or.inl ⟨?hw91, ?hy91⟩) (by assumption) ?hrest91
          case hi91 => simp only [List.getElem?_toArray]; rfl
          case hs91 => kernel_rfl
          case hf91 => kernel_rfl
          case hr91 => kernel_rfl
          case hQ91 => exact fun _ _ _ h => h
          case hw91 => rfl
          case hy91 => intro w hSw; (try dsimp only at hSw); go_simp; try with_reducible rfl
          try simp only [Act.put, List.setIfInBounds_toArray, List.set_cons_zero, List.set_cons_succ]
          refine wpAnyH_done (by kernel_rfl) ?_ _
          have HX2 := Lib.hid hx2
          clear hx2 hSx ht hHeld
          clear c0 c1 c2 c3 c4 cg1
          obtain ⟨v3, hv2⟩ : ∃ vv : World, vv = ((v2).alloc (.cells #[.string ts, .string td, .int .i64 tk, .int .i64 tz, .int .i64 ta] 31)).drew := ⟨_, rfl⟩
          rw [← hv2] at HX2 ⊢
          clear hv2
          obtain ⟨c0, c1, c2, c3, c4, cg1⟩ := HC.out v3 HX2.out
          go_wp2_with fail
          refine (of_graph B g L rd v3 (H0.out.ext HX2.out) hlen).mono ?_
          rintro e v4 ⟨o, rfl, hrow, hx⟩
          obtain ⟨A, n, c, rfl, hn, _⟩ := hrow
          have hnI : (0 : Int) < (n : Int) := by omega
          clear hn c0 c1 c2 c3 c4 cg1
          have HX3 := Lib.hid hx
          clear hx
          go_wp2_with fail
          go_ret
          exact ⟨rfl, GDid.of_ext H.out (HXV.out.trans (HX2.out.trans HX3.out)) hB⟩
        · have ha : addR L r = (0, insR L r) := by unfold addR; rw [if_neg (neg_true hrt), if_neg (by simp [hi]), if_neg (by simp [hj, hpos])]
          have hokn := H.out.ok.add r
          rw [ha] at hokn ⊢
          have HOKN := Lib.hid hokn
          clear hi hj hokn
          obtain ⟨rs, rd, rk, rz, ra⟩ := r
          dsimp only at hcells hS0 hS1 hv
          have HRT := Lib.hid hrt
          have HV := Lib.hid hv
          have HXV := Lib.hid hxv
          have HC := Lib.hid hcells
          have HS0 := Lib.hid hS0
          have HS1 := Lib.hid hS1
          clear hrt hv hxv hvh ha hcells hS0 hS1
          simp only [ruleV]
          go_enter Try.func12, Try.ntmps12
          go_wp2_with fail
          rw [← HV.out]
          clear HV
          refine (right_any ⟨rs, rd, rk, rz, ra⟩ v HRO.out).mono ?_
          rintro e v1 ⟨rfl, hx⟩
          rw [HRT.out]
          obtain ⟨c0, c1, c2, c3, c4, cg1⟩ := HC.out v1 hx
          have HX := Lib.hid hx
          clear hx
          go_wp2_with fail
          obtain ⟨ts, td, tk, tz, ta, ht⟩ := ruleV_ex (intoV L rd)
          have hSx := HS1.out
          rw [ht, HI.out] at hSx
          refine wp_region_held_drew (S := fun w' => w'.cell? ⟨g, 0, none⟩ = some (.map (some b)) ∧ w'.cell? ⟨w.heap.size, 1, none⟩ = some (.string rd) ∧ (Instr.lookup 60 (.map (some b)) (.string rd) true).run Try.prog w' = .ok (.tuple #[.agg #[.string ts, .string td, .int .i64 tk, .int .i64 tz, .int .i64 ta], .bool _]) w') (by kernel_rfl) (hSx _ (HX.out.trans (Ext.drew _))) (fun hHeld => ?_)
          refine' wpAnyH_take (i := 0) (oi := _) (v := _) ?hi93 ?hs93 ?hf93 ?hr93 ?hQ93 (Or.inl ⟨?hw93, ?hy93⟩) (by assumption) ?hrest93
          case hi93 => simp only [List.getElem?_toArray]; rfl
          case hs93 => kernel_rfl
          case hf93 => kernel_rfl
          case hr93 => kernel_rfl
          case hQ93 => exact fun _ _ _ h => h
          case hw93 => rfl
          case hy93 => intro w hSw; obtain ⟨hS1, hS2, hS3⟩ := hSw; go_simp; try with_reducible rfl
          try simp only [Act.put, List.setIfInBounds_toArray, List.set_cons_zero, List.set_cons_succ]
          refine' wpAnyH_take (i := 1) (oi := _) (v := _) ?hi94 ?hs94 ?hf94 ?hr94 ?hQ94 (Or.inl ⟨?hw94, ?hy94⟩) (by assumption) ?hrest94
          case hi94 => simp only [List.getElem?_toArray]; rfl
          case hs94 => kernel_rfl
          case hf94 => kernel_rfl
          case hr94 => kernel_rfl
          case hQ94 => exact fun _ _ _ h => h
          case hw94 => rfl
          case hy94 => intro w hSw; obtain ⟨hS1, hS2, hS3⟩ := hSw; go_simp; try with_reducible rfl
          try simp only [Act.put, List.setIfInBounds_toArray, List.set_cons_zero, List.set_cons_succ]
          refine' wpAnyH_take (i := 2) (oi := _) (v := _) ?hi95 ?hs95 ?hf95 ?hr95 ?hQ95 (Or.inl ⟨?hw95, ?hy95⟩) (by assumption) ?hrest95
          case hi95 => simp only [List.getElem?_toArray]; rfl
          case hs95 => kernel_rfl
          case hf95 => kernel_rfl
          case hr95 => kernel_rfl
          case hQ95 => exact fun _ _ _ h => h
          case hw95 => rfl
          case hy95 => intro w hSw; obtain ⟨hS1, hS2, hS3⟩ := hSw; go_simp; try with_reducible rfl
          try simp only [Act.put, List.setIfInBounds_toArray, List.set_cons_zero, List.set_cons_succ]
          refine' wpAnyH_take (i := 3) (oi := _) (v := _) ?hi96 ?hs96 ?hf96 ?hr96 ?hQ96 (Or.inl ⟨?hw96, ?hy96⟩) (by assumption) ?hrest96
          case hi96 => simp only [List.getElem?_toArray]; rfl
          case hs96 => kernel_rfl
          case hf96 => kernel_rfl
          case hr96 => kernel_rfl
          case hQ96 => exact fun _ _ _ h => h
          case hw96 => rfl
          case hy96 => intro w hSw; obtain ⟨hS1, hS2, hS3⟩ := hSw; go_simp; try with_reducible rfl
          try simp only [Act.put, List.setIfInBounds_toArray, List.set_cons_zero, List.set_cons_succ]
          refine' wpAnyH_take (i := 4) (oi := _) (v := _) ?hi97 ?hs97 ?hf97 ?hr97 ?hQ97 (Or.inl ⟨?hw97, ?hy97⟩) (by assumption) ?hrest97
          case hi97 => simp only [List.getElem?_toArray]; rfl
          case hs97 => kernel_rfl
          case hf97 => kernel_rfl
          case hr97 => kernel_rfl
          case hQ97 => exact fun _ _ _ h => h
          case hw97 => rfl
          case hy97 => intro w hSw; obtain ⟨hS1, hS2, hS3⟩ := hSw; go_simp; try with_reducible rfl
          try simp only [Act.put, List.setIfInBounds_toArray, List.set_cons_zero, List.set_cons_succ]
          refine' wpAnyH_take (i := 5) (oi := _) (v := _) ?hi98 ?hs98 ?hf98 ?hr98 ?hQ98 (Or.inl ⟨?hw98, ?hy98⟩) (by assumption) ?hrest98
          case hi98 => simp only [List.getElem?_toArray]; rfl
          case hs98 => kernel_rfl
          case hf98 => kernel_rfl
          case hr98 => kernel_rfl
          case hQ98 => exact fun _ _ _ h => h
          case hw98 => rfl
          case hy98 => intro w hSw; obtain ⟨hS1, hS2, hS3⟩ := hSw; go_simp; try with_reducible rfl
          try simp only [Act.put, List.setIfInBounds_toArray, List.set_cons_zero, List.set_cons_succ]
          refine' wpAnyH_take (i := 6) (oi := _) (v := _) ?hi99 ?hs99 ?hf99 ?hr99 ?hQ99 (Or.inl ⟨?hw99, ?hy99⟩) (by assumption) ?hrest99
          case hi99 => simp only [List.getElem?_toArray]; rfl
          case hs99 => kernel_rfl
          case hf99 => kernel_rfl
          case hr99 => kernel_rfl
          case hQ99 => exact fun _ _ _ h => h
          case hw99 => rfl
          case hy99 => intro w hSw; obtain ⟨hS1, hS2, hS3⟩ := hSw; go_simp; try with_reducible rfl
          try simp only [Act.put, List.setIfInBounds_toArray, List.set_cons_zero, List.set_cons_succ]
          refine' wpAnyH_take (i := 7) (oi := _) (v := _) ?hi100 ?hs100 ?hf100 ?hr100 ?hQ100 (Or.inl ⟨?hw100, ?hy100⟩) (by assumption) ?hrest100
          case hi100 => simp only [List.getElem?_toArray]; rfl
          case hs100 => kernel_rfl
          case hf100 => kernel_rfl
          case hr100 => kernel_rfl
          case hQ100 => exact fun _ _ _ h => h
          case hw100 => rfl
          case hy100 => intro w hSw; obtain ⟨hS1, hS2, hS3⟩ := hSw; go_simp; try with_reducible rfl
          try simp only [Act.put, List.setIfInBounds_toArray, List.set_cons_zero, List.set_cons_succ]
          refine' wpAnyH_take (i := 8) (oi := _) (v := _) ?hi101 ?hs101 ?hf101 ?hr101 ?hQ101 (Or.inl ⟨?hw101, ?hy101⟩) (by assumption) ?hrest101
          case hi101 => simp only [List.getElem?_toArray]; rfl
          case hs101 => kernel_rfl
          case hf101 => kernel_rfl
          case hr101 => kernel_rfl
          case hQ101 => exact fun _ _ _ h => h
          case hw101 => rfl
          case hy101 => intro w hSw; obtain ⟨hS1, hS2, hS3⟩ := hSw; go_simp; try with_reducible rfl
          try simp only [Act.put, List.setIfInBounds_toArray, List.set_cons_zero, List.set_cons_succ]
          refine' wpAnyH_take (i := 9) (oi := _) (v := _) ?hi102 ?hs102 ?hf102 ?hr102 ?hQ102 (Or.inl ⟨?hw102, ?hy102⟩) (by assumption) ?hrest102
          case hi102 => simp only [List.getElem?_toArray]; rfl
          case hs102 => kernel_rfl
          case hf102 => kernel_rfl
          case hr102 => kernel_rfl
          case hQ102 => exact fun _ _ _ h => h
          case hw102 => rfl
          case hy102 => intro w hSw; obtain ⟨hS1, hS2, hS3⟩ := hSw; go_simp; try with_reducible rfl
          try simp only [Act.put, List.setIfInBounds_toArray, List.set_cons_zero, List.set_cons_succ]
          refine wpAnyH_ready (rs := [10]) (by kernel_rfl) (by simp) ?_
          refine' AllReadyH.cons (o := _) ?ho103 (fun K hK => ?hstep103) AllReadyH.nil
          case ho103 => simp only [List.getElem?_toArray]; rfl
          go_simp
          have hx2 : Ext v1 ((v1).alloc (.cells #[.string ⟨#[]⟩, .string ⟨#[]⟩, .int .i64 0, .int .i64 0, .int .i64 0] 31)).drew := (Ext.alloc v1 _).trans (Ext.drew _)
          refine hK.out _ _ ((hSx _ (HX.out.trans hx2))) (fun hHeld => ?_)
          clear hK K
          try simp only [Act.put, List.setIfInBounds_toArray, List.set_cons_zero, List.set_cons_succ]
          refine wpAnyH_ready (rs := [11]) (by kernel_rfl) (by simp) ?_
          refine' AllReadyH.cons (o := _) ?ho105 (fun K hK => ?hstep105) AllReadyH.nil
          case ho105 => simp only [List.getElem?_toArray]; rfl
          go_simp
          clear hx2
          have hx2 : Ext v ((v1).alloc (.cells #[.string ts, .string td, .int .i64 tk, .int .i64 tz, .int .i64 ta] 31)).drew := HX.out.trans ((Ext.alloc v1 _).trans (Ext.drew _))
          refine hK.out _ _ ((hSx _ hx2)) (fun hHeld => ?_)
          clear hK K
          try simp only [Act.put, List.setIfInBounds_toArray, List.set_cons_zero, List.set_cons_succ]
          refine' wpAnyH_take (i := 12) (oi := _) (v := _) ?hi107 ?hs107 ?hf107 ?hr107 ?hQ107 (Or.inl ⟨?hw107, ?hy107⟩) (by assumption) ?hrest107
          case hi107 => simp only [List.getElem?_toArray]; rfl
          case hs107 => kernel_rfl
          case hf107 => kernel_rfl
          case hr107 => kernel_rfl
          case hQ107 => exact fun _ _ _ h => h
          case hw107 => rfl
          case hy107 => intro w hSw; (try dsimp only at hSw); go_simp; try with_reducible rfl
          try simp only [Act.put, List.setIfInBounds_toArray, List.set_cons_zero, List.set_cons_succ]
          refine wpAnyH_done (by kernel_rfl) ?_ _
          have HX2 := Lib.hid hx2
          clear hx2 hSx ht hHeld
          clear c0 c1 c2 c3 c4 cg1
          obtain ⟨v2, hv2⟩ : ∃ vv : World, vv = ((v1).alloc (.cells #[.string ts, .string td, .int .i64 tk, .int .i64 tz, .int .i64 ta] 31)).drew := ⟨_, rfl⟩
          rw [← hv2] at HX2 ⊢
          clear hv2
          obtain ⟨c0, c1, c2, c3, c4, cg1⟩ := HC.out v2 HX2.out
          go_wp2_with fail
          clear HX
          have HX := HX2
          clear HX2
          obtain ⟨ts, td, tk, tz, ta, ht⟩ := ruleV_ex (intoV L rs)
          have hSx := HS0.out
          rw [ht, HJ.out] at hSx
          refine wp_region_held_drew (S := fun w' => w'.cell? ⟨g, 0, none⟩ = some (.map (some b)) ∧ w'.cell? ⟨w.heap.size, 0, none⟩ = some (.string rs) ∧ (Instr.lookup 60 (.map (some b)) (.string rs) true).run Try.prog w' = .ok (.tuple #[.agg #[.string ts, .string td, .int .i64 tk, .int .i64 tz, .int .i64 ta], .bool _]) w') (by kernel_rfl) (hSx _ (HX.out.trans (Ext.drew _))) (fun hHeld => ?_)
          refine' wpAnyH_take (i := 0) (oi := _) (v := _) ?hi109 ?hs109 ?hf109 ?hr109 ?hQ109 (Or.inl ⟨?hw109, ?hy109⟩) (by assumption) ?hrest109
          case hi109 => simp only [List.getElem?_toArray]; rfl
          case hs109 => kernel_rfl
          case hf109 => kernel_rfl
          case hr109 => kernel_rfl
          case hQ109 => exact fun _ _ _ h => h
          case hw109 => rfl
          case hy109 => intro w hSw; obtain ⟨hS1, hS2, hS3⟩ := hSw; go_simp; try with_reducible rfl
          try simp only [Act.put, List.setIfInBounds_toArray, List.set_cons_zero, List.set_cons_succ]
          refine' wpAnyH_take (i := 1) (oi := _) (v := _) ?hi110 ?hs110 ?hf110 ?hr110 ?hQ110 (Or.inl ⟨?hw110, ?hy110⟩) (by assumption) ?hrest110
          case hi110 => simp only [List.getElem?_toArray]; rfl
          case hs110 => kernel_rfl
          case hf110 => kernel_rfl
          case hr110 => kernel_rfl
          case hQ110 => exact fun _ _ _ h => h
          case hw110 => rfl
          case hy110 => intro w hSw; obtain ⟨hS1, hS2, hS3⟩ := hSw; go_simp; try with_reducible rfl
          try simp only [Act.put, List.setIfInBounds_toArray, List.set_cons_zero, List.set_cons_succ]
          refine' wpAnyH_take (i := 2) (oi := _) (v := _) ?hi111 ?hs111 ?hf111 ?hr111 ?hQ111 (Or.inl ⟨?hw111, ?hy111⟩) (by assumption) ?hrest111
          case hi111 => simp only [List.getElem?_toArray]; rfl
          case hs111 => kernel_rfl
          case hf111 => kernel_rfl
          case hr111 => kernel_rfl
          case hQ111 => exact fun _ _ _ h => h
          case hw111 => rfl
          case hy111 => intro w hSw; obtain ⟨hS1, hS2, hS3⟩ := hSw; go_simp; try with_reducible rfl
          try simp only [Act.put, List.setIfInBounds_toArray, List.set_cons_zero, List.set_cons_succ]
          refine' wpAnyH_take (i := 3) (oi := _) (v := _) ?hi112 ?hs112 ?hf112 ?hr112 ?hQ112 (Or.inl ⟨?hw112, ?hy112⟩) (by assumption) ?hrest112
          case hi112 => simp only [List.getElem?_toArray]; rfl
          case hs112 => kernel_rfl
          case hf112 => kernel_rfl
          case hr112 => kernel_rfl
          case hQ112 => exact fun _ _ _ h => h
          case hw112 => rfl
          case hy112 => intro w hSw; obtain ⟨hS1, hS2, hS3⟩ := hSw; go_simp; try with_reducible rfl
          try simp only [Act.put, List.setIfInBounds_toArray, List.set_cons_zero, List.set_cons_succ]
          refine' wpAnyH_take (i := 4) (oi := _) (v := _) ?hi113 ?hs113 ?hf113 ?hr113 ?hQ113 (Or.inl ⟨?hw113, ?hy113⟩) (by assumption) ?hrest113
          case hi113 => simp only [List.getElem?_toArray]; rfl
          case hs113 => kernel_rfl
          case hf113 => kernel_rfl
          case hr113 => kernel_rfl
          case hQ113 => exact fun _ _ _ h => h
          case hw113 => rfl
          case hy113 => intro w hSw; obtain ⟨hS1, hS2, hS3⟩ := hSw; go_simp; try with_reducible rfl
          try simp only [Act.put, List.setIfInBounds_toArray, List.set_cons_zero, List.set_cons_succ]
          refine' wpAnyH_take (i := 5) (oi := _) (v := _) ?hi114 ?hs114 ?hf114 ?hr114 ?hQ114 (Or.inl ⟨?hw114, ?hy114⟩) (by assumption) ?hrest114
          case hi114 => simp only [List.getElem?_toArray]; rfl
          case hs114 => kernel_rfl
          case hf114 => kernel_rfl
          case hr114 => kernel_rfl
          case hQ114 => exact fun _ _ _ h => h
          case hw114 => rfl
          case hy114 => intro w hSw; obtain ⟨hS1, hS2, hS3⟩ := hSw; go_simp; try with_reducible rfl
          try simp only [Act.put, List.setIfInBounds_toArray, List.set_cons_zero, List.set_cons_succ]
          refine' wpAnyH_take (i := 6) (oi := _) (v := _) ?hi115 ?hs115 ?hf115 ?hr115 ?hQ115 (Or.inl ⟨?hw115, ?hy115⟩) (by assumption) ?hrest115
          case hi115 => simp only [List.getElem?_toArray]; rfl
          case hs115 => kernel_rfl
          case hf115 => kernel_rfl
          case hr115 => kernel_rfl
          case hQ115 => exact fun _ _ _ h => h
          case hw115 => rfl
          case hy115 => intro w hSw; obtain ⟨hS1, hS2, hS3⟩ := hSw; go_simp; try with_reducible rfl
          try simp only [Act.put, List.setIfInBounds_toArray, List.set_cons_zero, List.set_cons_succ]
          refine' wpAnyH_take (i := 7) (oi := _) (v := _) ?hi116 ?hs116 ?hf116 ?hr116 ?hQ116 (Or.inl ⟨?hw116, ?hy116⟩) (by assumption) ?hrest116
          case hi116 => simp only [List.getElem?_toArray]; rfl
          case hs116 => kernel_rfl
          case hf116 => kernel_rfl
          case hr116 => kernel_rfl
          case hQ116 => exact fun _ _ _ h => h
          case hw116 => rfl
          case hy116 => intro w hSw; obtain ⟨hS1, hS2, hS3⟩ := hSw; go_simp; try with_reducible rfl
          try simp only [Act.put, List.setIfInBounds_toArray, List.set_cons_zero, List.set_cons_succ]
          refine' wpAnyH_take (i := 8) (oi := _) (v := _) ?hi117 ?hs117 ?hf117 ?hr117 ?hQ117 (Or.inl ⟨?hw117, ?hy117⟩) (by assumption) ?hrest117
          case hi117 => simp only [List.getElem?_toArray]; rfl
          case hs117 => kernel_rfl
          case hf117 => kernel_rfl
          case hr117 => kernel_rfl
          case hQ117 => exact fun _ _ _ h => h
          case hw117 => rfl
          case hy117 => intro w hSw; obtain ⟨hS1, hS2, hS3⟩ := hSw; go_simp; try with_reducible rfl
          try simp only [Act.put, List.setIfInBounds_toArray, List.set_cons_zero, List.set_cons_succ]
          refine' wpAnyH_take (i := 9) (oi := _) (v := _) ?hi118 ?hs118 ?hf118 ?hr118 ?hQ118 (Or.inl ⟨?hw118, ?hy118⟩) (by assumption) ?hrest118
          case hi118 => simp only [List.getElem?_toArray]; rfl
          case hs118 => kernel_rfl
          case hf118 => kernel_rfl
          case hr118 => kernel_rfl
          case hQ118 => exact fun _ _ _ h => h
          case hw118 => rfl
          case hy118 => intro w hSw; obtain ⟨hS1, hS2, hS3⟩ := hSw; go_simp; try with_reducible rfl
          try simp only [Act.put, List.setIfInBounds_toArray, List.set_cons_zero, List.set_cons_succ]
          refine wpAnyH_ready (rs := [10]) (by kernel_rfl) (by simp) ?_
          refine' AllReadyH.cons (o := _) ?ho119 (fun K hK => ?hstep119) AllReadyH.nil
          case ho119 => simp only [List.getElem?_toArray]; rfl
          go_simp
          have hx2 : Ext v2 ((v2).alloc (.cells #[.string ⟨#[]⟩, .string ⟨#[]⟩, .int .i64 0, .int .i64 0, .int .i64 0] 31)).drew := (Ext.alloc v2 _).trans (Ext.drew _)
          refine hK.out _ _ ((hSx _ (HX.out.trans hx2))) (fun hHeld => ?_)
          clear hK K
          try simp only [Act.put, List.setIfInBounds_toArray, List.set_cons_zero, List.set_cons_succ]
          refine wpAnyH_ready (rs := [11]) (by kernel_rfl) (by simp) ?_
          refine' AllReadyH.cons (o := _) ?ho121 (fun K hK => ?hstep121) AllReadyH.nil
          case ho121 => simp only [List.getElem?_toArray]; rfl
          go_simp
          clear hx2
          have hx2 : Ext v ((v2).alloc (.cells #[.string ts, .string td, .int .i64 tk, .int .i64 tz, .int .i64 ta] 31)).drew := HX.out.trans ((Ext.alloc v2 _).trans (Ext.drew _))
          refine hK.out _ _ ((hSx _ hx2)) (fun hHeld => ?_)
          clear hK K
          try simp only [Act.put, List.setIfInBounds_toArray, List.set_cons_zero, List.set_cons_succ]
          refine' wpAnyH_take (i := 12) (oi := _) (v := _) ?hi123 ?hs123 ?hf123 ?hr123 ?hQ123 (Or.inl ⟨?hw123, ?hy123⟩) (by assumption) ?hrest123
          case hi123 => simp only [List.getElem?_toArray]; rfl
          case hs123 => kernel_rfl
          case hf123 => kernel_rfl
          case hr123 => kernel_rfl
          case hQ123 => exact fun _ _ _ h => h
          case hw123 => rfl
          case hy123 => intro w hSw; (try dsimp only at hSw); go_simp; try with_reducible rfl
          try simp only [Act.put, List.setIfInBounds_toArray, List.set_cons_zero, List.set_cons_succ]
          refine wpAnyH_done (by kernel_rfl) ?_ _
          have HX2 := Lib.hid hx2
          clear hx2 hSx ht hHeld
          clear c0 c1 c2 c3 c4 cg1
          obtain ⟨v3, hv2⟩ : ∃ vv : World, vv = ((v2).alloc (.cells #[.string ts, .string td, .int .i64 tk, .int .i64 tz, .int .i64 ta] 31)).drew := ⟨_, rfl⟩
          rw [← hv2] at HX2 ⊢
          clear hv2
          obtain ⟨c0, c1, c2, c3, c4, cg1⟩ := HC.out v3 HX2.out
          go_wp2_with fail
          refine (of_graph B g L rd v3 (H0.out.ext HX2.out) hlen).mono ?_
          rintro e v4 ⟨o, rfl, hrow, hx⟩
          obtain ⟨A, n, c, rfl, hn, _⟩ := hrow
          have hnI : ¬ (0 : Int) < (n : Int) := by omega
          clear hn c0 c1 c2 c3 c4 cg1
          have hx4 := HX2.out.trans hx
          obtain ⟨c0, c1, c2, c3, c4, cg1⟩ := HC.out v4 hx4
          obtain ⟨b', cg2, hBb, hup⟩ := graph_update (H0.out.ext hx4)
          obtain rfl : b' = b := by rw [cg1] at cg2; injection cg2 with e; injection e with e; injection e with e; exact e.symm
          obtain ⟨w5, hrun, hg5, hk5, hcm5⟩ := hup ⟨rs, rd, rk, rz, ra⟩ _ HRO.out.d HI.out (insR_perm _ _) HOKN.out v4.drew (Ext.drew _)
          simp only [ruleV] at hrun
          have HG5 := Lib.hid hg5
          have hxa := (HXV.out.trans hx4).trans (Ext.drew v4)
          have HCM := Lib.hid ((Cm.of_ext hxa).trans hcm5)
          have hbw : bw = b' := by
            have := (HXV.out.trans hx4).cell HCW.out
            rw [cg1] at this; injection this with e; injection e with e; injection e with e; exact e.symm
          have HBW := Lib.hid hbw
          have HK5 := Lib.hid ((Kp.of_ext hxa : Kp [b'] _ _).and hk5)
          have HB5 := Lib.hid (Below.trans (hxa.to_below hB) (hk5.to_below hBb (Nat.le_trans hB hxa.size)))
          clear hup hg5 hk5 hcm5 hx hx4 hxa cg2 hbw
          go_wp2_with fail
          go_still_tail 7, (by kernel_rfl)
          repeat still_step
          change wpList _ _ _ _ _ v4.drew
          go_wp2_with fail
          go_ret
          exact ⟨rfl, HG5.out, HCM.out, HB5.out, bw, HCW.out, by rw [HBW.out]; exact HK5.out⟩
end Go.Proofs.Ytdahdghphjlmfaa
