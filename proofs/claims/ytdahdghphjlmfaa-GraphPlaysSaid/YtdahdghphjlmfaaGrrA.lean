/- The document's graph: keys, names, a rule is right, ahead. -/
import Derived.Test.YtdahdghphjlmfaaGraH
import Derived.Test.YtdahdghphjlmfaaSetB
import Derived.Deep.CutRange
namespace Go.Proofs.Ytdahdghphjlmfaa
open Go.RowKit Sets Gra
set_option linter.unusedVariables false

theorem rkey_any (s : ByteArray) (w : World) (hs : s.size ≤ 9223372036854775807) : Calls Try.prog 36 #[.string s] w fun e w' => e = .returned (.bool (keyR s)) ∧ Ext w w' := by
  by_cases h1 : 1 ≤ s.size
  · have hI : (1 : Int) ≤ (s.size : Int) := by omega
    by_cases h2 : s.size ≤ 64
    · have hJ : (s.size : Int) ≤ 64 := by omega
      go_enter Try.func36, Try.ntmps36
      go_wp2_with fail
      go_ret
      exact ⟨by simp [keyR, h1, h2], Ext.refl _⟩
    · have hJ : (64 : Int) < (s.size : Int) := by omega
      go_enter Try.func36, Try.ntmps36
      go_wp2_with fail
      go_ret
      exact ⟨by simp [keyR, h1, h2]; try omega, Ext.refl _⟩
  · have hI : (s.size : Int) < 1 := by omega
    go_enter Try.func36, Try.ntmps36
    go_wp2_with fail
    go_ret
    exact ⟨by simp [keyR, h1], Ext.refl _⟩
theorem rname_any (k : Int) (w : World) (h1 : -9223372036854775808 ≤ k) (h2 : k ≤ 9223372036854775807) : Calls Try.prog 37 #[.int .i64 k] w fun e w' => ∃ t : ByteArray, e = .returned (.string t) ∧ decide (t = ⟨#[]⟩) = !decide (1 ≤ k ∧ k ≤ 7) ∧ Ext w w' := by
  by_cases ha : k < 1
  · go_enter Try.func37, Try.ntmps37
    go_wp2_with fail
    go_ret
    exact ⟨_, rfl, by simp; try omega, Ext.refl _⟩
  · by_cases hb : 7 < k
    · go_enter Try.func37, Try.ntmps37
      go_wp2_with fail
      go_ret
      exact ⟨_, rfl, by simp; try omega, Ext.refl _⟩
    · have hk : k = 1 ∨ k = 2 ∨ k = 3 ∨ k = 4 ∨ k = 5 ∨ k = 6 ∨ k = 7 := by omega
      clear ha hb h1 h2
      rcases hk with rfl | rfl | rfl | rfl | rfl | rfl | rfl
      all_goals
        go_enter Try.func37, Try.ntmps37
        go_wp2_with fail
        go_ret
        exact ⟨_, rfl, by decide, Ext.alloc _ _⟩
def sizeR (z a : Int) : Bool := decide ((1 ≤ z ∧ z ≤ 1099511627776) ∧ (0 ≤ a ∧ a < z))
theorem rsize_any (z a : Int) (w : World) : Calls Try.prog 38 #[.int .i64 z, .int .i64 a] w fun e w' => e = .returned (.bool (sizeR z a)) ∧ Ext w w' := by
  have fin : ∀ b : Bool, ((1 ≤ z ∧ z ≤ 1099511627776) ∧ (0 ≤ a ∧ a < z) ↔ b = true) → b = sizeR z a := by
    intro b hb
    unfold sizeR
    cases b
    · rw [eq_comm, decide_eq_false_iff_not, hb]; simp
    · rw [eq_comm, decide_eq_true_eq, hb]
  have FIN := Lib.hid fin
  clear fin
  by_cases b1 : 1 ≤ z
  · by_cases b2 : z ≤ 1099511627776
    · by_cases b3 : 0 ≤ a
      · by_cases b4 : a < z
        all_goals
          go_enter Try.func38, Try.ntmps38
          go_wp2_with fail
          go_ret
          exact ⟨ret_bool (FIN.out _ (by simp; try omega)), Ext.refl _⟩
      · have b3' : a < 0 := by omega
        go_enter Try.func38, Try.ntmps38
        go_wp2_with fail
        go_ret
        exact ⟨ret_bool (FIN.out _ (by simp; try omega)), Ext.refl _⟩
    · have b2' : 1099511627776 < z := by omega
      go_enter Try.func38, Try.ntmps38
      go_wp2_with fail
      go_ret
      exact ⟨ret_bool (FIN.out _ (by simp; try omega)), Ext.refl _⟩
  · have b1' : z < 1 := by omega
    go_enter Try.func38, Try.ntmps38
    go_wp2_with fail
    go_ret
    exact ⟨ret_bool (FIN.out _ (by simp; try omega)), Ext.refl _⟩
/-- A rule's cells in a block of its own, in any later world. -/
theorem rbox_cells {w w' : World} {p : Nat} {t : TypeId} {r : Rule} (h : w.heap[p]? = some (.cells #[.string r.src, .string r.dst, .int .i64 r.kind, .int .i64 r.size, .int .i64 r.align] t (0, 0))) (hx : Ext w w') :
    w'.cell? ⟨p, 0, none⟩ = some (.string r.src) ∧ w'.cell? ⟨p, 1, none⟩ = some (.string r.dst) ∧ w'.cell? ⟨p, 2, none⟩ = some (.int .i64 r.kind) ∧ w'.cell? ⟨p, 3, none⟩ = some (.int .i64 r.size) ∧ w'.cell? ⟨p, 4, none⟩ = some (.int .i64 r.align) := by
  have hb := (Kp.of_ext (L := []) hx).heap h (by simp)
  exact ⟨heap_cell hb 0, heap_cell hb 1, heap_cell hb 2, heap_cell hb 3, heap_cell hb 4⟩
theorem rRight_any (r : Rule) (w : World) (hr : RuleOk r) : Calls Try.prog 28 #[ruleV r] w fun e w' => e = .returned (.bool (rightR r)) ∧ Ext w w' := by
  have HR := Lib.hid hr
  have hs : keyR r.src = false → rightR r = false := fun h => by simp [rightR, h]
  have hd : keyR r.dst = false → rightR r = false := fun h => by simp [rightR, h]
  have he : r.src = r.dst → rightR r = false := fun h => by simp [rightR, h]
  have hk : decide (1 ≤ r.kind ∧ r.kind ≤ 7) = false → rightR r = false := fun h => by unfold rightR; rw [h]; simp
  have hz : sizeR r.size r.align = false → rightR r = false := fun h => by unfold rightR; rw [show decide ((1 ≤ r.size ∧ r.size ≤ 1099511627776) ∧ (0 ≤ r.align ∧ r.align < r.size)) = false from h]; simp
  have hall : keyR r.src = true → keyR r.dst = true → r.src ≠ r.dst → decide (1 ≤ r.kind ∧ r.kind ≤ 7) = true → sizeR r.size r.align = true → rightR r = true := fun h1 h2 h3 h4 h5 => by
    unfold rightR; rw [show decide ((1 ≤ r.size ∧ r.size ≤ 1099511627776) ∧ (0 ≤ r.align ∧ r.align < r.size)) = true from h5, h1, h2, h4]; simp [h3]
  have HS := Lib.hid hs
  have HD := Lib.hid hd
  have HE := Lib.hid he
  have HK := Lib.hid hk
  have HZ := Lib.hid hz
  have HA := Lib.hid hall
  clear hs hd he hk hz hall hr
  obtain ⟨rs, rd, rk, rz, ra⟩ := r
  simp only [ruleV]
  go_enter Try.func28, Try.ntmps28
  go_upto_region 1 with fail
  have hb := heap_alloc_new w (.cells #[.string rs, .string rd, .int .i64 rk, .int .i64 rz, .int .i64 ra] 38 (0, 0))
  have hx1 := Ext.alloc w (.cells #[.string rs, .string rd, .int .i64 rk, .int .i64 rz, .int .i64 ra] 38)
  generalize w.alloc (.cells #[.string rs, .string rd, .int .i64 rk, .int .i64 rz, .int .i64 ra] 38) = w1 at hb hx1 ⊢
  generalize w.heap.size = p at hb ⊢
  have HC := Lib.hid (fun (wz : World) (hw : Ext w1 wz) => rbox_cells (r := ⟨rs, rd, rk, rz, ra⟩) hb hw)
  have HX := Lib.hid hx1
  obtain ⟨c0, c1, c2, c3, c4⟩ := HC.out w1 (Ext.refl _)
  try dsimp only at c0 c1 c2 c3 c4
  clear hb hx1
  go_wp2_with fail
  clear c0 c1 c2 c3 c4
  refine (rkey_any rs w1 HR.out.s).mono ?_
  rintro e w2 ⟨rfl, hx2⟩
  have HX2 := Lib.hid hx2
  obtain ⟨c0, c1, c2, c3, c4⟩ := HC.out w2 hx2
  try dsimp only at c0 c1 c2 c3 c4
  clear hx2
  cases hk1 : keyR rs with
  | false =>
    have HF := Lib.hid (HS.out hk1)
    clear hk1
    go_wp2_with fail
    go_ret
    exact ⟨ret_bool HF.out.symm, HX.out.trans HX2.out⟩
  | true =>
    have K1 := Lib.hid hk1
    clear hk1
    go_wp2_with fail
    clear c0 c1 c2 c3 c4
    refine (rkey_any rd w2 HR.out.d).mono ?_
    rintro e w3 ⟨rfl, hx3⟩
    have HX3 := Lib.hid (HX2.out.trans hx3)
    obtain ⟨c0, c1, c2, c3, c4⟩ := HC.out w3 HX3.out
    try dsimp only at c0 c1 c2 c3 c4
    clear hx3
    cases hk2 : keyR rd with
    | false =>
      have HF := Lib.hid (HD.out hk2)
      clear hk2
      go_wp2_with fail
      go_ret
      exact ⟨ret_bool HF.out.symm, HX.out.trans HX3.out⟩
    | true =>
      have K2 := Lib.hid hk2
      clear hk2
      by_cases hne : rs = rd
      · have HF := Lib.hid (HE.out hne)
        subst hne
        go_wp2_with fail
        go_ret
        exact ⟨ret_bool HF.out.symm, HX.out.trans HX3.out⟩
      · have e1 : (rs.toList == rd.toList) = false := by rw [eq_dec]; simp [hne]
        have HNE := Lib.hid hne
        clear hne
        go_wp2_with fail
        clear c0 c1 c2 c3 c4
        refine (rname_any rk w3 HR.out.k1 HR.out.k2).mono ?_
        rintro e w4 ⟨t, rfl, ht, hx4⟩
        have HX4 := Lib.hid (HX3.out.trans hx4)
        obtain ⟨c0, c1, c2, c3, c4⟩ := HC.out w4 HX4.out
        try dsimp only at c0 c1 c2 c3 c4
        clear hx4
        cases hk3 : decide (1 ≤ rk ∧ rk ≤ 7) with
        | false =>
          have HF := Lib.hid (HK.out hk3)
          rw [hk3] at ht
          obtain rfl : t = ⟨#[]⟩ := by simpa using ht
          clear hk3
          go_wp2_with fail
          go_ret
          exact ⟨ret_bool HF.out.symm, HX.out.trans HX4.out⟩
        | true =>
          have K3 := Lib.hid hk3
          rw [hk3] at ht
          have ht' : ¬ t = ⟨#[]⟩ := by simpa using ht
          have hl : t.toList ≠ [] := fun h => ht' (text_ext (h.trans (by decide +kernel)))
          have hl1 : t.toList.isEmpty = false := by simpa using hl
          have hl2 : (!t.toList.isEmpty) = true := by simpa using hl
          clear ht' hl
          clear hk3 ht
          go_wp2_with fail
          clear c0 c1 c2 c3 c4
          refine (rsize_any rz ra w4).mono ?_
          rintro e w5 ⟨rfl, hx5⟩
          have HX5 := Lib.hid (HX4.out.trans hx5)
          clear hx5
          go_wp2_with fail
          go_ret
          refine ⟨ret_bool ?_, HX.out.trans HX5.out⟩
          cases hz : sizeR rz ra with
          | false => exact (HZ.out hz).symm
          | true => exact (HA.out K1.out K2.out HNE.out K3.out hz).symm
theorem rAhead_any (a b : Rule) (w : World) (ha : RuleOk a) (hb : RuleOk b) : Calls Try.prog 29 #[ruleV a, ruleV b] w fun e w' => e = .returned (.bool (aheadR a b)) ∧ Ext w w' := by
  have hs1 := ha.s
  have hs2 := hb.s
  have hd1 := ha.d
  have hd2 := hb.d
  clear ha hb
  obtain ⟨ys, yd, yk, yz, ya⟩ := a
  obtain ⟨bs, bd, bk, bz, ba⟩ := b
  simp only [ruleV]
  dsimp only at hs1 hs2 hd1 hd2
  by_cases he : ys = bs
  · subst he
    go_enter Try.func29, Try.ntmps29
    go_wp2_with fail
    refine (below_any yd bd _ hd1 hd2).mono ?_
    rintro e w2 ⟨rfl, q, rfl⟩
    go_wp2_with fail
    go_ret
    exact ⟨ret_bool (by simp [aheadR]), ((Ext.alloc _ _).trans (Ext.alloc _ _)).trans (Ext.drewN _ _)⟩
  · have e1 : (ys.toList == bs.toList) = false := by rw [eq_dec]; simp [he]
    have HF := Lib.hid he
    clear he
    go_enter Try.func29, Try.ntmps29
    go_wp2_with fail
    refine (below_any ys bs _ hs1 hs2).mono ?_
    rintro e w2 ⟨rfl, q, rfl⟩
    go_wp2_with fail
    go_ret
    exact ⟨ret_bool (by simp [aheadR, HF.out]), ((Ext.alloc _ _).trans (Ext.alloc _ _)).trans (Ext.drewN _ _)⟩
end Go.Proofs.Ytdahdghphjlmfaa
