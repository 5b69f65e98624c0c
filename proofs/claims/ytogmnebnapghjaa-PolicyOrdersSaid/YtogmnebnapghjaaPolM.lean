/- The walks of PolicyOrders, PolicyCaps, PolicyTwice, PolicyRises. -/
import Derived.Test.YtogmnebnapghjaaPolL
namespace Go.Proofs.Ytogmnebnapghjaa
open Go.RowKit
set_option linter.unusedVariables false


set_option maxRecDepth 100000 in
set_option maxHeartbeats 2000000 in
theorem policyCaps_any (a b : Int) (ha : Rg a) (hb : Rg b) (w : World) : Calls Try.prog 6 #[.int .i64 a, .int .i64 b] w fun e w' => e = .returned (.bool true) ∧ Ext w w' := by
  have a1 := ha.lo
  have a2 := ha.hi
  have b1 := hb.lo
  have b2 := hb.hi
  by_cases hf : -9223372036854775808 ≤ a + b ∧ a + b ≤ 9223372036854775807
  · obtain ⟨f1, f2⟩ := hf
    have e1 : (a + b == a + b) = true := by simp
    have e2 : (a + b - b == a) = true := by rw [beq_iff_eq]; omega
    by_cases hu : -9223372036854775808 ≤ a - 1
    · have e3 : (a + b + (-1 - b) == a - 1) = true := by rw [beq_iff_eq]; omega
      by_cases h0 : 0 ≤ b
      all_goals
        go_enter Try.func6, Try.ntmps6
        go_wp2_with fail
        refine (add_yes a b _ a1 a2 b1 b2 f1 f2).mono ?_
        rintro e w1 ⟨rfl, rfl⟩
        go_wp2_with fail
        refine (cap_yes a b _ a1 a2 b1 b2 f1 f2).mono ?_
        rintro e w2 ⟨rfl, rfl⟩
        go_wp2_with fail
        refine (add_yes (a + b) (-1 - b) _ f1 f2 (by omega) (by omega) (by omega) (by omega)).mono ?_
        rintro e w3 ⟨rfl, rfl⟩
        go_wp2_with fail
        refine (known_any _).mono ?_
        rintro e wk ⟨rfl, ek⟩
        go_wp2_with fail
        go_ret
        exact ⟨rfl, ek⟩
    · have h0 : 0 ≤ b := by omega
      go_enter Try.func6, Try.ntmps6
      go_wp2_with fail
      refine (add_yes a b _ a1 a2 b1 b2 f1 f2).mono ?_
      rintro e w1 ⟨rfl, rfl⟩
      go_wp2_with fail
      refine (cap_yes a b _ a1 a2 b1 b2 f1 f2).mono ?_
      rintro e w2 ⟨rfl, rfl⟩
      go_wp2_with fail
      refine (add_no (a + b) (-1 - b) _ f1 f2 (by omega) (by omega) (by omega)).mono ?_
      rintro e w3 ⟨rfl, rfl⟩
      go_wp2_with fail
      refine (known_any _).mono ?_
      rintro e wk ⟨rfl, ek⟩
      go_wp2_with fail
      go_ret
      exact ⟨rfl, ek⟩
  · by_cases hu : 9223372036854775807 < a + b
    · have c1 : 0 < a := by omega
      have c2 : 0 < b := by omega
      go_enter Try.func6, Try.ntmps6
      go_wp2_with fail
      refine (add_no a b _ a1 a2 b1 b2 (.inr hu)).mono ?_
      rintro e w1 ⟨rfl, rfl⟩
      go_wp2_with fail
      refine (cap_up a b _ a1 a2 b1 b2 hu).mono ?_
      rintro e w2 ⟨rfl, rfl⟩
      go_wp2_with fail
      refine (known_any _).mono ?_
      rintro e wk ⟨rfl, ek⟩
      go_wp2_with fail
      go_ret
      exact ⟨rfl, ek⟩
    · have hd : a + b < -9223372036854775808 := by omega
      have c1 : a < 0 := by omega
      have c2 : b < 0 := by omega
      clear hf hu
      go_enter Try.func6, Try.ntmps6
      go_wp2_with fail
      refine (add_no a b _ a1 a2 b1 b2 (.inl hd)).mono ?_
      rintro e w1 ⟨rfl, rfl⟩
      go_wp2_with fail
      refine (cap_down a b _ a1 a2 b1 b2 hd).mono ?_
      rintro e w2 ⟨rfl, rfl⟩
      go_wp2_with fail
      refine (known_any _).mono ?_
      rintro e wk ⟨rfl, ek⟩
      go_wp2_with fail
      go_ret
      exact ⟨rfl, ek⟩

set_option maxRecDepth 100000 in
set_option maxHeartbeats 2000000 in
theorem policyTwice_any (a b : Int) (ha : Rg a) (hb : Rg b) (w : World) : Calls Try.prog 8 #[.int .i64 a, .int .i64 b] w fun e w' => e = .returned (.bool true) ∧ Ext w w' := by
  go_enter Try.func8, Try.ntmps8
  go_wp2
  go_loop [5] (fun i => ∃ k : Int, 2 ≤ k ∧ k ≤ 6 ∧ i = .int .i64 k) (fun i => (6 - intOf i).toNat)
  case atStart => exact ⟨2, by omega, by omega, rfl⟩
  case round =>
    obtain ⟨k, hk1, hk2, rfl⟩ := hrel
    by_cases h5 : k ≤ 5
    · have hq1 : (a != a) = false := by simp
      have hq2 : (b != b) = false := by simp
      have hq3 : (min a b != min (min a b) b) = false := by rw [bne_eq_false_iff_eq]; omega
      have hq4 : (max a b != max (max a b) b) = false := by rw [bne_eq_false_iff_eq]; omega
      have r1 : Rg (min a b) := ⟨by have := ha.lo; have := hb.lo; omega, by have := ha.hi; omega⟩
      have r2 : Rg (max a b) := ⟨by have := ha.lo; omega, by have := ha.hi; have := hb.hi; omega⟩
      rcases (by omega : k = 2 ∨ k = 3 ∨ k = 4 ∨ k = 5) with rfl | rfl | rfl | rfl
      · go_wp2_with fail
        refine (merge_v 2 a b a 0 ha hb rfl rfl _).mono ?_
        rintro e w1 ⟨rfl, rfl⟩
        go_wp2_with fail
        refine (merge_v 2 a b a 0 ha hb rfl rfl _).mono ?_
        rintro e w2 ⟨rfl, rfl⟩
        go_wp2_with fail
        go_round
        case rel => exact ⟨3, by omega, by omega, rfl⟩
        case measure => simp [intOf]
      · go_wp2_with fail
        refine (merge_v 3 a b b 0 ha hb rfl rfl _).mono ?_
        rintro e w1 ⟨rfl, rfl⟩
        go_wp2_with fail
        refine (merge_v 3 b b b 0 hb hb rfl rfl _).mono ?_
        rintro e w2 ⟨rfl, rfl⟩
        go_wp2_with fail
        go_round
        case rel => exact ⟨4, by omega, by omega, rfl⟩
        case measure => simp [intOf]
      · go_wp2_with fail
        refine (merge_v 4 a b (min a b) 0 ha hb rfl rfl _).mono ?_
        rintro e w1 ⟨rfl, rfl⟩
        go_wp2_with fail
        refine (merge_v 4 (min a b) b (min (min a b) b) 0 r1 hb rfl rfl _).mono ?_
        rintro e w2 ⟨rfl, rfl⟩
        go_wp2_with fail
        go_round
        case rel => exact ⟨5, by omega, by omega, rfl⟩
        case measure => simp [intOf]
      · go_wp2_with fail
        refine (merge_v 5 a b (max a b) 0 ha hb rfl rfl _).mono ?_
        rintro e w1 ⟨rfl, rfl⟩
        go_wp2_with fail
        refine (merge_v 5 (max a b) b (max (max a b) b) 0 r2 hb rfl rfl _).mono ?_
        rintro e w2 ⟨rfl, rfl⟩
        go_wp2_with fail
        go_round
        case rel => exact ⟨6, by omega, by omega, rfl⟩
        case measure => simp [intOf]
    · go_wp2_with fail
      refine (merge_v 1 a b 0 8 ha hb rfl rfl _).mono ?_
      rintro e w1 ⟨rfl, rfl⟩
      go_wp2_with fail
      refine (known_any _).mono ?_
      rintro e wk ⟨rfl, ek⟩
      go_wp2_with fail
      go_ret
      exact ⟨rfl, ek⟩

set_option maxRecDepth 100000 in
set_option maxHeartbeats 4000000 in
theorem policyOrders_any (a b c : Int) (ha : Rg a) (hb : Rg b) (hc : Rg c) (w : World) : Calls Try.prog 5 #[.int .i64 a, .int .i64 b, .int .i64 c] w fun e w' => e = .returned (.bool true) ∧ Ext w w' := by
  go_enter Try.func5, Try.ntmps5
  go_wp2
  go_loop [7] (fun i => ∃ k : Int, 2 ≤ k ∧ k ≤ 7 ∧ i = .int .i64 k) (fun i => (7 - intOf i).toNat)
  case atStart => exact ⟨2, by omega, by omega, rfl⟩
  case round =>
    obtain ⟨k, hk1, hk2, rfl⟩ := hrel
    by_cases h6 : k ≤ 6
    · rcases (by omega : k = 2 ∨ k = 3 ∨ k = 4 ∨ k = 5 ∨ k = 6) with rfl | rfl | rfl | rfl | rfl
      · have q1 : (a != a) = false := by simp
        go_wp2_with fail
        refine (merge_v 2 a b a 0 ha hb rfl rfl _).mono ?_
        rintro e w1 ⟨rfl, rfl⟩
        go_wp2_with fail
        refine (merge_v 2 a c a 0 ha hc rfl rfl _).mono ?_
        rintro e w2 ⟨rfl, rfl⟩
        go_wp2_with fail
        refine (merge_v 2 b c b 0 hb hc rfl rfl _).mono ?_
        rintro e w3 ⟨rfl, rfl⟩
        go_wp2_with fail
        refine (merge_v 2 a b a 0 ha hb rfl rfl _).mono ?_
        rintro e w4 ⟨rfl, rfl⟩
        go_wp2_with fail
        refine (merge_v 2 b a b 0 hb ha rfl rfl _).mono ?_
        rintro e w5 ⟨rfl, rfl⟩
        go_wp2_with fail
        go_round
        case rel => exact ⟨3, by omega, by omega, rfl⟩
        case measure => simp [intOf]
      · have q1 : (c != c) = false := by simp
        have q2 : (b != b) = false := by simp
        by_cases hab : b = a
        · subst hab
          go_wp2_with fail
          refine (merge_v 3 b b b 0 hb hb rfl rfl _).mono ?_
          rintro e w1 ⟨rfl, rfl⟩
          go_wp2_with fail
          refine (merge_v 3 b c c 0 hb hc rfl rfl _).mono ?_
          rintro e w2 ⟨rfl, rfl⟩
          go_wp2_with fail
          refine (merge_v 3 b c c 0 hb hc rfl rfl _).mono ?_
          rintro e w3 ⟨rfl, rfl⟩
          go_wp2_with fail
          refine (merge_v 3 b c c 0 hb hc rfl rfl _).mono ?_
          rintro e w4 ⟨rfl, rfl⟩
          go_wp2_with fail
          refine (merge_v 3 b b b 0 hb hb rfl rfl _).mono ?_
          rintro e w5 ⟨rfl, rfl⟩
          go_wp2_with fail
          go_round
          case rel => exact ⟨4, by omega, by omega, rfl⟩
          case measure => simp [intOf]
        · have q3 : (b != a) = true := by rw [bne_iff_ne]; exact hab
          clear hab
          go_wp2_with fail
          refine (merge_v 3 a b b 0 ha hb rfl rfl _).mono ?_
          rintro e w1 ⟨rfl, rfl⟩
          go_wp2_with fail
          refine (merge_v 3 b c c 0 hb hc rfl rfl _).mono ?_
          rintro e w2 ⟨rfl, rfl⟩
          go_wp2_with fail
          refine (merge_v 3 b c c 0 hb hc rfl rfl _).mono ?_
          rintro e w3 ⟨rfl, rfl⟩
          go_wp2_with fail
          refine (merge_v 3 a c c 0 ha hc rfl rfl _).mono ?_
          rintro e w4 ⟨rfl, rfl⟩
          go_wp2_with fail
          refine (merge_v 3 b a a 0 hb ha rfl rfl _).mono ?_
          rintro e w5 ⟨rfl, rfl⟩
          go_wp2_with fail
          go_round
          case rel => exact ⟨4, by omega, by omega, rfl⟩
          case measure => simp [intOf]
      · obtain ⟨x, hx⟩ : ∃ x, min a b = x := ⟨_, rfl⟩
        obtain ⟨u, hu⟩ : ∃ u, min b c = u := ⟨_, rfl⟩
        obtain ⟨y, hy⟩ : ∃ y, min x c = y := ⟨_, rfl⟩
        have hy' : min a u = y := by omega
        have hx' : min b a = x := by omega
        have rx : Rg x := ⟨by have := ha.lo; have := hb.lo; omega, by have := ha.hi; omega⟩
        have ru : Rg u := ⟨by have := hb.lo; have := hc.lo; omega, by have := hb.hi; omega⟩
        have q1 : (y != y) = false := by simp
        have q2 : (x != x) = false := by simp
        have hor : (x != a) = false ∨ (x != a) = true ∧ (x != b) = false := by
          simp only [bne_eq_false_iff_eq, bne_iff_ne]; omega
        have X1 : mV 4 a b = x := hx
        have X2 : mV 4 x c = y := hy
        have X3 : mV 4 b c = u := hu
        have X4 : mV 4 a u = y := hy'
        have X5 : mV 4 b a = x := hx'
        have HH := Lib.hid (And.intro X1 (And.intro X2 (And.intro X3 (And.intro X4 X5))))
        clear hx hu hy hy' hx' X1 X2 X3 X4 X5
        rcases hor with hor | ⟨hor, hor'⟩
        all_goals
          go_wp2_with fail
          refine (merge_v 4 a b x 0 ha hb HH.out.1 rfl _).mono ?_
          rintro e w1 ⟨rfl, rfl⟩
          go_wp2_with fail
          refine (merge_v 4 x c y 0 rx hc HH.out.2.1 rfl _).mono ?_
          rintro e w2 ⟨rfl, rfl⟩
          go_wp2_with fail
          refine (merge_v 4 b c u 0 hb hc HH.out.2.2.1 rfl _).mono ?_
          rintro e w3 ⟨rfl, rfl⟩
          go_wp2_with fail
          refine (merge_v 4 a u y 0 ha ru HH.out.2.2.2.1 rfl _).mono ?_
          rintro e w4 ⟨rfl, rfl⟩
          go_wp2_with fail
          refine (merge_v 4 b a x 0 hb ha HH.out.2.2.2.2 rfl _).mono ?_
          rintro e w5 ⟨rfl, rfl⟩
          go_wp2_with fail
          go_round
          case rel => exact ⟨5, by omega, by omega, rfl⟩
          case measure => simp [intOf]
      · obtain ⟨x, hx⟩ : ∃ x, max a b = x := ⟨_, rfl⟩
        obtain ⟨u, hu⟩ : ∃ u, max b c = u := ⟨_, rfl⟩
        obtain ⟨y, hy⟩ : ∃ y, max x c = y := ⟨_, rfl⟩
        have hy' : max a u = y := by omega
        have hx' : max b a = x := by omega
        have rx : Rg x := ⟨by have := ha.lo; omega, by have := ha.hi; have := hb.hi; omega⟩
        have ru : Rg u := ⟨by have := hb.lo; omega, by have := hb.hi; have := hc.hi; omega⟩
        have q1 : (y != y) = false := by simp
        have q2 : (x != x) = false := by simp
        have hor : (x != a) = false ∨ (x != a) = true ∧ (x != b) = false := by
          simp only [bne_eq_false_iff_eq, bne_iff_ne]; omega
        have X1 : mV 5 a b = x := hx
        have X2 : mV 5 x c = y := hy
        have X3 : mV 5 b c = u := hu
        have X4 : mV 5 a u = y := hy'
        have X5 : mV 5 b a = x := hx'
        have HH := Lib.hid (And.intro X1 (And.intro X2 (And.intro X3 (And.intro X4 X5))))
        clear hx hu hy hy' hx' X1 X2 X3 X4 X5
        rcases hor with hor | ⟨hor, hor'⟩
        all_goals
          go_wp2_with fail
          refine (merge_v 5 a b x 0 ha hb HH.out.1 rfl _).mono ?_
          rintro e w1 ⟨rfl, rfl⟩
          go_wp2_with fail
          refine (merge_v 5 x c y 0 rx hc HH.out.2.1 rfl _).mono ?_
          rintro e w2 ⟨rfl, rfl⟩
          go_wp2_with fail
          refine (merge_v 5 b c u 0 hb hc HH.out.2.2.1 rfl _).mono ?_
          rintro e w3 ⟨rfl, rfl⟩
          go_wp2_with fail
          refine (merge_v 5 a u y 0 ha ru HH.out.2.2.2.1 rfl _).mono ?_
          rintro e w4 ⟨rfl, rfl⟩
          go_wp2_with fail
          refine (merge_v 5 b a x 0 hb ha HH.out.2.2.2.2 rfl _).mono ?_
          rintro e w5 ⟨rfl, rfl⟩
          go_wp2_with fail
          go_round
          case rel => exact ⟨6, by omega, by omega, rfl⟩
          case measure => simp [intOf]
      · obtain ⟨x, hx⟩ : ∃ x, aV a b = x := ⟨_, rfl⟩
        obtain ⟨e, he⟩ : ∃ x, aE a b = x := ⟨_, rfl⟩
        obtain ⟨y, hy⟩ : ∃ x', aV x c = x' := ⟨_, rfl⟩
        obtain ⟨f, hf⟩ : ∃ x', aE x c = x' := ⟨_, rfl⟩
        obtain ⟨u, hu⟩ : ∃ x, aV b c = x := ⟨_, rfl⟩
        obtain ⟨g, hg⟩ : ∃ x, aE b c = x := ⟨_, rfl⟩
        obtain ⟨v, hv⟩ : ∃ x', aV a u = x' := ⟨_, rfl⟩
        obtain ⟨h, hh⟩ : ∃ x', aE a u = x' := ⟨_, rfl⟩
        have rx : Rg x := by rw [← hx]; exact aV_rg a b
        have ru : Rg u := by rw [← hu]; exact aV_rg b c
        have hx' : aV b a = x := by rw [aV_comm]; exact hx
        have he' : aE b a = e := by rw [aE_comm]; exact he
        have hcase : (e == 0) = false ∨ (e == 0) = true ∧ (f == 0) = false ∨ (e == 0) = true ∧ (f == 0) = true ∧ (g == 0) = false ∨ (e == 0) = true ∧ (f == 0) = true ∧ (g == 0) = true ∧ (h == 0) = false ∨
            (e == 0) = true ∧ (f == 0) = true ∧ (g == 0) = true ∧ (h == 0) = true ∧ (y != v) = false := by
          by_cases z1 : e = 0
          · by_cases z2 : f = 0
            · by_cases z3 : g = 0
              · by_cases z4 : h = 0
                · have hyv : y = v := by
                    unfold aV at hx hy hu hv
                    unfold aE at he hf hg hh
                    cases i1 : inI (a + b) <;> simp only [i1, Bool.false_eq_true, if_false, if_true] at hx he
                    · omega
                    cases i2 : inI (x + c) <;> simp only [i2, Bool.false_eq_true, if_false, if_true] at hy hf
                    · omega
                    cases i3 : inI (b + c) <;> simp only [i3, Bool.false_eq_true, if_false, if_true] at hu hg
                    · omega
                    cases i4 : inI (a + u) <;> simp only [i4, Bool.false_eq_true, if_false, if_true] at hv hh
                    · omega
                    omega
                  refine .inr (.inr (.inr (.inr ⟨?_, ?_, ?_, ?_, ?_⟩))) <;> simp [z1, z2, z3, z4, hyv]
                · exact .inr (.inr (.inr (.inl (by simp [z1, z2, z3, z4]))))
              · exact .inr (.inr (.inl (by simp [z1, z2, z3])))
            · exact .inr (.inl (by simp [z1, z2]))
          · exact .inl (by simp [z1])
        have q1 : (x != x) = false := by simp
        have q2 : (e != e) = false := by simp
        have X1 : mV 6 a b = x := hx
        have X2 : mV 6 x c = y := hy
        have X3 : mV 6 b c = u := hu
        have X4 : mV 6 a u = v := hv
        have X5 : mV 6 b a = x := hx'
        have Y1 : mE 6 a b = e := he
        have Y2 : mE 6 x c = f := hf
        have Y3 : mE 6 b c = g := hg
        have Y4 : mE 6 a u = h := hh
        have Y5 : mE 6 b a = e := he'
        have HH := Lib.hid (And.intro X1 (And.intro X2 (And.intro X3 (And.intro X4 X5))))
        have KK := Lib.hid (And.intro Y1 (And.intro Y2 (And.intro Y3 (And.intro Y4 Y5))))
        clear hx hu hy hv hx' he hf hg hh he' X1 X2 X3 X4 X5 Y1 Y2 Y3 Y4 Y5
        rcases hcase with k1 | ⟨k1, k2⟩ | ⟨k1, k2, k3⟩ | ⟨k1, k2, k3, k4⟩ | ⟨k1, k2, k3, k4, k5⟩
        all_goals
          go_wp2_with fail
          refine (merge_v 6 a b x e ha hb HH.out.1 KK.out.1 _).mono ?_
          rintro e w1 ⟨rfl, rfl⟩
          go_wp2_with fail
          refine (merge_v 6 x c y f rx hc HH.out.2.1 KK.out.2.1 _).mono ?_
          rintro e w2 ⟨rfl, rfl⟩
          go_wp2_with fail
          refine (merge_v 6 b c u g hb hc HH.out.2.2.1 KK.out.2.2.1 _).mono ?_
          rintro e w3 ⟨rfl, rfl⟩
          go_wp2_with fail
          refine (merge_v 6 a u v h ha ru HH.out.2.2.2.1 KK.out.2.2.2.1 _).mono ?_
          rintro e w4 ⟨rfl, rfl⟩
          go_wp2_with fail
          refine (merge_v 6 b a x e hb ha HH.out.2.2.2.2 KK.out.2.2.2.2 _).mono ?_
          rintro e w5 ⟨rfl, rfl⟩
          go_wp2_with fail
          go_round
          case rel => exact ⟨7, by omega, by omega, rfl⟩
          case measure => simp [intOf]
    · go_wp2_with fail
      refine (known_any _).mono ?_
      rintro e wk ⟨rfl, ek⟩
      go_wp2_with fail
      go_ret
      exact ⟨rfl, ek⟩

theorem cV_mono {a a' c : Int} (ha : Rg a) (ha' : Rg a') (hc : Rg c) (h : a ≤ a') : cV a c ≤ cV a' c := by
  have h1 := ha.lo
  have h2 := ha.hi
  have h3 := ha'.lo
  have h4 := ha'.hi
  have h5 := hc.lo
  have h6 := hc.hi
  unfold cV
  cases q : inI (a + c) <;> cases q' : inI (a' + c) <;> simp only [Bool.false_eq_true, if_false, if_true]
  · split <;> omega
  · have h' := (inI_iff _).1 q'
    have h'' : ¬ _ := fun hh => by rw [(inI_iff (a + c)).2 hh] at q; cases q
    split <;> omega
  · have h' := (inI_iff _).1 q
    have h'' : ¬ _ := fun hh => by rw [(inI_iff (a' + c)).2 hh] at q'; cases q'
    split <;> omega
  · omega
theorem cV_zero {a : Int} (ha : Rg a) : cV a 0 = a := by
  unfold cV
  rw [Int.add_zero, (inI_iff a).2 ⟨ha.lo, ha.hi⟩, if_pos rfl]

set_option maxRecDepth 100000 in
set_option maxHeartbeats 2000000 in
theorem policyRises_any (a b c : Int) (ha : Rg a) (hb : Rg b) (hc : Rg c) (w : World) : Calls Try.prog 9 #[.int .i64 a, .int .i64 b, .int .i64 c] w fun e w' => e = .returned (.bool true) ∧ Ext w w' := by
  obtain ⟨z, hz⟩ : ∃ z, cV a c = z := ⟨_, rfl⟩
  have hz' : cV c a = z := by rw [← cV_comm ha hc]; exact hz
  have hzz : (z == z) = true := by simp
  have haa : (a == a) = true := by simp
  have H0 := Lib.hid (cV_zero ha)
  have HZ := Lib.hid hz
  have HZ' := Lib.hid hz'
  clear hz hz'
  by_cases h : a ≤ b
  · obtain ⟨x, hx⟩ : ∃ x, cV a c = x := ⟨_, rfl⟩
    obtain ⟨y, hy⟩ : ∃ y, cV b c = y := ⟨_, rfl⟩
    have hxy : x ≤ y := by rw [← hx, ← hy]; exact cV_mono ha hb hc h
    have HX := Lib.hid hx
    have HY := Lib.hid hy
    clear hx hy
    by_cases h' : a < b
    · go_enter Try.func9, Try.ntmps9
      go_wp2_with fail
      refine (cap_v a c x ha hc HX.out _).mono ?_
      rintro e w1 ⟨rfl, rfl⟩
      go_wp2_with fail
      refine (cap_v b c y hb hc HY.out _).mono ?_
      rintro e w2 ⟨rfl, rfl⟩
      go_wp2_with fail
      refine (cap_v a c z ha hc HZ.out _).mono ?_
      rintro e w3 ⟨rfl, rfl⟩
      go_wp2_with fail
      refine (cap_v c a z hc ha HZ'.out _).mono ?_
      rintro e w4 ⟨rfl, rfl⟩
      go_wp2_with fail
      refine (cap_v a 0 a ha ⟨by omega, by omega⟩ H0.out _).mono ?_
      rintro e w5 ⟨rfl, rfl⟩
      go_wp2_with fail
      refine (known_any _).mono ?_
      rintro e wk ⟨rfl, ek⟩
      go_wp2_with fail
      go_ret
      exact ⟨rfl, ek⟩
    · obtain rfl : a = b := by omega
      go_enter Try.func9, Try.ntmps9
      go_wp2_with fail
      refine (cap_v a c x ha hc HX.out _).mono ?_
      rintro e w1 ⟨rfl, rfl⟩
      go_wp2_with fail
      refine (cap_v a c y hb hc HY.out _).mono ?_
      rintro e w2 ⟨rfl, rfl⟩
      go_wp2_with fail
      refine (cap_v a c z ha hc HZ.out _).mono ?_
      rintro e w3 ⟨rfl, rfl⟩
      go_wp2_with fail
      refine (cap_v c a z hc ha HZ'.out _).mono ?_
      rintro e w4 ⟨rfl, rfl⟩
      go_wp2_with fail
      refine (cap_v a 0 a ha ⟨by omega, by omega⟩ H0.out _).mono ?_
      rintro e w5 ⟨rfl, rfl⟩
      go_wp2_with fail
      refine (known_any _).mono ?_
      rintro e wk ⟨rfl, ek⟩
      go_wp2_with fail
      go_ret
      exact ⟨rfl, ek⟩
  · obtain ⟨x, hx⟩ : ∃ x, cV b c = x := ⟨_, rfl⟩
    obtain ⟨y, hy⟩ : ∃ y, cV a c = y := ⟨_, rfl⟩
    have hxy : x ≤ y := by rw [← hx, ← hy]; exact cV_mono hb ha hc (by omega)
    have HX := Lib.hid hx
    have HY := Lib.hid hy
    clear hx hy
    have h' : b < a := by omega
    clear h
    go_enter Try.func9, Try.ntmps9
    go_wp2_with fail
    refine (cap_v b c x hb hc HX.out _).mono ?_
    rintro e w1 ⟨rfl, rfl⟩
    go_wp2_with fail
    refine (cap_v a c y ha hc HY.out _).mono ?_
    rintro e w2 ⟨rfl, rfl⟩
    go_wp2_with fail
    refine (cap_v a c z ha hc HZ.out _).mono ?_
    rintro e w3 ⟨rfl, rfl⟩
    go_wp2_with fail
    refine (cap_v c a z hc ha HZ'.out _).mono ?_
    rintro e w4 ⟨rfl, rfl⟩
    go_wp2_with fail
    refine (cap_v a 0 a ha ⟨by omega, by omega⟩ H0.out _).mono ?_
    rintro e w5 ⟨rfl, rfl⟩
    go_wp2_with fail
    refine (known_any _).mono ?_
    rintro e wk ⟨rfl, ek⟩
    go_wp2_with fail
    go_ret
    exact ⟨rfl, ek⟩

end Go.Proofs.Ytogmnebnapghjaa
