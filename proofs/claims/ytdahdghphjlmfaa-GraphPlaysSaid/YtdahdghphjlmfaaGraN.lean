/- The walk of layer 11's known. -/
import Derived.Test.YtdahdghphjlmfaaGraK
import Derived.StillTailTactics
namespace Go.Proofs.Ytdahdghphjlmfaa
open Go.RowKit Sets Gra
set_option linter.unusedVariables false

set_option maxRecDepth 100000 in
set_option maxHeartbeats 4000000 in
theorem known_any (w : World) : Calls Try.prog 10 #[] w fun e w' => e = .returned (.bool true) ∧ Ext w w' := by
  go_enter Try.func10, Try.ntmps10
  go_wp2_with fail
  refine (new_any w).mono ?_
  rintro e v0 ⟨g, rfl, hg, hx⟩
  have hk : Kn w v0.heap.size g (v0.alloc (.cells #[.string ⟨#[97]⟩, .string ⟨#[98]⟩, .int .i64 1, .int .i64 10, .int .i64 0] 31)) [] :=
    ⟨hg.ext (Ext.alloc v0 _), heap_alloc_new v0 _, (hx.trans (Ext.alloc v0 _)).to_below (Nat.le_refl _)⟩
  clear hg hx
  go_wp2_with fail
  generalize v0.alloc (.cells #[.string ⟨#[97]⟩, .string ⟨#[98]⟩, .int .i64 1, .int .i64 10, .int .i64 0] 31) = v1 at hk ⊢
  generalize v0.heap.size = p at hk ⊢
  have HK := Lib.hid hk
  clear hk
  refine (add_any w.heap.size g [] kab v1 HK.out.at_ (by decide) kabOk HK.out.below.size).mono ?_
  rintro e v2 ⟨rfl, hd⟩
  rw [k1] at hd ⊢
  have HK2 := Lib.hid (HK.out.did hd)
  clear HK hd
  have HK := HK2
  clear HK2
  dsimp only
  go_wp2_with fail
  refine (add_any w.heap.size g [kab] kbc v2 HK.out.at_ (by decide) kbcOk HK.out.below.size).mono ?_
  rintro e v3 ⟨rfl, hd⟩
  rw [k2] at hd ⊢
  have HK2 := Lib.hid (HK.out.did hd)
  clear HK hd
  have HK := HK2
  clear HK2
  dsimp only
  go_wp2_with fail
  refine (add_any w.heap.size g [kab] kac v3 HK.out.at_ (by decide) kacOk HK.out.below.size).mono ?_
  rintro e v4 ⟨rfl, hd⟩
  rw [k3] at hd ⊢
  have HK2 := Lib.hid (HK.out.did hd)
  clear HK hd
  have HK := HK2
  clear HK2
  dsimp only
  go_wp2_with fail
  refine (add_any w.heap.size g [kab, kac] kdc v4 HK.out.at_ (by decide) kdcOk HK.out.below.size).mono ?_
  rintro e v5 ⟨rfl, hd⟩
  rw [k4] at hd ⊢
  have HK2 := Lib.hid (HK.out.did hd)
  clear HK hd
  have HK := HK2
  clear HK2
  dsimp only
  go_wp2_with fail
  refine (add_any w.heap.size g [kab, kac] kaa v5 HK.out.at_ (by decide) kaaOk HK.out.below.size).mono ?_
  rintro e v6 ⟨rfl, hd⟩
  rw [k5] at hd ⊢
  have HK2 := Lib.hid (HK.out.did hd)
  clear HK hd
  have HK := HK2
  clear HK2
  dsimp only
  go_wp2_with fail
  refine (add_any w.heap.size g [kab, kac] kda v6 HK.out.at_ (by decide) kdaOk HK.out.below.size).mono ?_
  rintro e v7 ⟨rfl, hd⟩
  rw [k6] at hd ⊢
  have HK2 := Lib.hid (HK.out.did hd)
  clear HK hd
  have HK := HK2
  clear HK2
  dsimp only
  go_wp2_with fail
  refine (of_graph w.heap.size g [kab, kac] ⟨#[97]⟩ v7 HK.out.at_ (by decide)).mono ?_
  rintro e v8 ⟨o, rfl, hr, hx⟩
  rw [k7] at hr
  obtain ⟨A, n, c, rfl, hn, hnc, hcm, hr⟩ := hr
  obtain rfl : n = 2 := hn.symm
  obtain ⟨ad, rfl⟩ : ∃ ad, A = some ad := row_some hr ruleC_len (by decide) (by decide)
  have hm := HK.out.ext hx
  have hm2 : Km w [p] g v8 [kab, kac] ad := ⟨hm.at_, fun q hq => by simp at hq; subst hq; exact hm.box, hm.below, hr⟩
  have HM := Lib.hid hm2
  clear hm hm2 hr hx hn HK
  go_wp2_with fail
  refine (into_any w.heap.size g [kab, kac] ⟨#[98]⟩ v8 HM.out.at_ (by decide)).mono ?_
  rintro e v9 ⟨rfl, hx⟩
  rw [k15, k8]
  simp only [ruleV, kab, Option.isSome_some]
  have HM2 := Lib.hid (HM.out.ext hx).more
  clear HM hx
  have HM := HM2
  clear HM2
  go_wp2_with fail
  generalize v9.alloc (.cells #[.string ⟨#[97]⟩, .string ⟨#[98]⟩, .int .i64 1, .int .i64 10, .int .i64 0] 31) = v10 at HM ⊢
  generalize v9.heap.size = p10 at HM ⊢
  refine (drop_any w.heap.size g [kab, kac] ⟨#[97]⟩ ⟨#[98]⟩ v10 HM.out.at_ (by decide) (by decide) HM.out.below.size).mono ?_
  rintro e v11 ⟨rfl, hd⟩
  rw [k9] at hd ⊢
  simp only [ruleV, kab]
  have HM2 := Lib.hid (HM.out.did hd).more
  clear HM hd
  have HM := HM2
  clear HM2
  go_wp2_with fail
  generalize v11.alloc (.cells #[.string ⟨#[97]⟩, .string ⟨#[98]⟩, .int .i64 1, .int .i64 10, .int .i64 0] 31) = v12 at HM ⊢
  generalize v11.heap.size = p12 at HM ⊢
  refine (drop_any w.heap.size g [kac] ⟨#[97]⟩ ⟨#[98]⟩ v12 HM.out.at_ (by decide) (by decide) HM.out.below.size).mono ?_
  rintro e v13 ⟨rfl, hd⟩
  rw [k10] at hd ⊢
  simp only [ruleV, zeroR]
  have HM2 := Lib.hid ((HM.out.did hd).ext (Ext.alloc v13 (.cells #[.string ⟨#[]⟩, .string ⟨#[]⟩, .int .i64 0, .int .i64 0, .int .i64 0] 31)))
  clear HM hd
  have HM := HM2
  clear HM2
  go_wp2_with fail
  generalize v13.alloc (.cells #[.string ⟨#[]⟩, .string ⟨#[]⟩, .int .i64 0, .int .i64 0, .int .i64 0] 31) = v14 at HM ⊢
  generalize v13.heap.size = p14 at HM ⊢
  refine (gone_any w.heap.size g [kac] ⟨#[99]⟩ v14 HM.out.at_ (by decide) HM.out.below.size).mono ?_
  rintro e v15 ⟨rfl, hd⟩
  rw [k12] at hd
  rw [k11]
  have HM2 := Lib.hid (HM.out.did hd)
  clear HM hd
  have HM := HM2
  clear HM2
  obtain ⟨a0, a1, a2, a3, a4⟩ := box_cells (HM.out.bx p12 (by simp))
  obtain ⟨b0, b1, b2, b3, b4⟩ := box_cells (HM.out.bx p10 (by simp))
  obtain ⟨c0, c1, c2, c3, c4⟩ := box_cells (HM.out.bx p (by simp))
  obtain ⟨r0, r1, r2, r3, r4⟩ := row_cells HM.out.row
  simp only [List.length_singleton]
  go_wp2_with fail
  refine wp_region_still_tail 61 (by kernel_rfl) (by kernel_rfl) ?_
  simp only [List.append_eq, List.cons_append, List.nil_append, List.take_succ_cons, List.take_zero, List.drop_succ_cons, List.drop_zero]
  repeat still_step
  change wpList _ _ _ _ _ v15.drew
  have HM2 := Lib.hid (HM.out.ext (Ext.drew v15))
  clear HM a0 a1 a2 a3 a4 b0 b1 b2 b3 b4 c0 c1 c2 c3 c4 r0 r1 r2 r3 r4
  have HM := HM2
  clear HM2
  go_wp2_with fail
  refine (all_any w.heap.size g [] v15.drew HM.out.at_ (by decide)).mono ?_
  rintro e v16 ⟨o, rfl, hr, hx⟩
  obtain ⟨A3, n3, e3, rfl, hn3, _⟩ := hr
  obtain rfl : n3 = 0 := hn3.symm
  have HM2 := Lib.hid (HM.out.ext hx)
  clear HM hx hn3
  obtain ⟨c0, c1, c2, c3, c4⟩ := box_cells (HM2.out.bx p (by simp))
  go_wp2_with fail
  refine (right_any kab v16 kabOk).mono ?_
  rintro e v17 ⟨rfl, hx⟩
  rw [k13]
  have HM := Lib.hid (HM2.out.ext hx)
  clear HM2 hx c0 c1 c2 c3 c4
  go_wp2_with fail
  refine (right_any zeroR v17 kzOk).mono ?_
  rintro e v18 ⟨rfl, hx⟩
  rw [k14]
  have HM2 := Lib.hid (HM.out.ext hx)
  clear HM hx
  go_wp2_with fail
  refine (copy_any w.heap.size g [] v18 HM2.out.at_ (by decide)).mono ?_
  rintro e v19 ⟨g3, rfl, _, hx⟩
  have HM := Lib.hid (HM2.out.ext hx)
  clear HM2 hx
  go_wp2_with fail
  go_ret
  exact ⟨rfl, HM.out.below⟩
end Go.Proofs.Ytdahdghphjlmfaa
