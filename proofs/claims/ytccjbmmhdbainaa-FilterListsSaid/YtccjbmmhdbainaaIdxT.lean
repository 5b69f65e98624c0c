/- Package index: sorted walked. -/
import Derived.Test.YtccjbmmhdbainaaIdxS
import Derived.Deep.RegionLaw
import Derived.Deep.CutBlock
namespace Go.Proofs.Ytccjbmmhdbainaa
open Go.RowKit Sets
set_option linter.unusedVariables false
set_option maxRecDepth 100000
set_option linter.unusedSectionVars false
set_option linter.unusedSimpArgs false

theorem flat_set (a : List Lab) (k : Nat) (y : Lab) : (a.set k y).flatMap labC = ((a.flatMap labC).set (k * 2) (.string y.1)).set (k * 2 + 1) (.string y.2) := by
  apply List.ext_getElem?
  intro i
  have hi : i = (i / 2) * 2 + i % 2 := (Nat.div_add_mod' i 2).symm
  have hm := Nat.mod_lt i (by decide : 0 < 2)
  have hlen : (a.flatMap labC).length = a.length * 2 := flat_length labC_len a
  rw [List.getElem?_set, List.getElem?_set, List.length_set, hlen]
  rw [hi, flat_get labC_len _ _ _ hm, flat_get labC_len _ _ _ hm, List.getElem?_set]
  by_cases h1 : k = i / 2
  · subst h1
    rw [if_pos rfl]
    by_cases hl : i / 2 < a.length
    · rw [if_pos hl]
      rcases (by omega : i % 2 = 0 ∨ i % 2 = 1) with h | h
      · rw [h, if_neg (by omega), if_pos (by omega), if_pos (by omega)]; rfl
      · rw [h, if_pos (by omega), if_pos (by omega)]; rfl
    · rw [if_neg hl, List.getElem?_eq_none (by omega : a.length ≤ i / 2)]
      rcases (by omega : i % 2 = 0 ∨ i % 2 = 1) with h | h
      · rw [h, if_neg (by omega), if_pos (by omega), if_neg (by omega)]; rfl
      · rw [h, if_pos (by omega), if_neg (by omega)]; rfl
  · rw [if_neg h1, if_neg (by omega), if_neg (by omega)]
theorem lab_at {a : List Lab} {k : Nat} (h : k < a.length) : a[k]? = some (a.getD k noL) := by
  rw [List.getD_eq_getElem?_getD, List.getElem?_eq_getElem h]; rfl
/-- A row of labels of one's own, at an address that stays a letter. -/
structure OwnA (w0 w : World) (ad : Addr) (n cap : Nat) (l a : List Lab) : Prop where
  own : w.ownsRow w0.heap.size 69 2 (.slice (some ad) n cap) n (a.flatMap labC)
  len : a.length = n
  ext : Ext w0 w
  fin : ad = ⟨ad.block, 0, none⟩
theorem OwnA.store {w0 w : World} {ad : Addr} {n cap : Nat} {l a : List Lab} (h : OwnA w0 w ad n cap l a) (k : Nat) (y : Lab) :
    OwnA w0 ((w.setCell (ad.add (k * 2)) (.string y.1)).setCell ⟨(ad.add (k * 2)).block, (ad.add (k * 2)).off + 1, none⟩ (.string y.2)) ad n cap l (a.set k y) := by
  obtain ⟨h1, h2, h3, h4⟩ := h
  obtain ⟨g, o, p⟩ := ad
  simp only [Addr.mk.injEq, true_and] at h4
  obtain ⟨rfl, rfl⟩ := h4
  have e1 : (⟨g, 0, none⟩ : Addr).add (k * 2) = ⟨g, k * 2, none⟩ := by simp [Addr.add]; try omega
  rw [e1]
  have hlt := (ap_lt h1 g rfl).2.1
  obtain ⟨s1, g1⟩ := h1.stored (k * 2) (.string y.1)
  obtain ⟨s2, g2⟩ := s1.stored (k * 2 + 1) (.string y.2)
  refine ⟨by rw [flat_set]; exact s2, by simpa using h2, ?_, rfl⟩
  have k1 : Kp [g] w ((w.setCell ⟨g, k * 2, none⟩ (.string y.1)).setCell ⟨g, k * 2 + 1, none⟩ (.string y.2)) := (Kp.store g (k * 2) _ (by simp) : Kp [g] _ _).and (Kp.store g (k * 2 + 1) _ (by simp))
  exact k1.to_ext h3 (by simpa using hlt)
theorem OwnA.rd {w0 w : World} {ad : Addr} {n cap : Nat} {l a : List Lab} (h : OwnA w0 w ad n cap l a) : Rd w (some ad) (a.flatMap labC) := Rd.own h.own
theorem OwnA.frozen {w0 w : World} {ad : Addr} {n cap : Nat} {l a : List Lab} (h : OwnA w0 w ad n cap l a) (k : Nat) : w.frozen? (ad.add (k * 2)) = false ∧ w.frozen? ⟨(ad.add (k * 2)).block, (ad.add (k * 2)).off + 1, none⟩ = false := by
  obtain ⟨h1, h2, h3, h4⟩ := h
  obtain ⟨g, o, p⟩ := ad
  simp only [Addr.mk.injEq, true_and] at h4
  obtain ⟨rfl, rfl⟩ := h4
  have e1 : (⟨g, 0, none⟩ : Addr).add (k * 2) = ⟨g, k * 2, none⟩ := by simp [Addr.add]; try omega
  rw [e1]
  exact ⟨h1.frozenAt _, h1.frozenAt _⟩
theorem OwnA.later {w0 w w' : World} {ad : Addr} {n cap : Nat} {l a : List Lab} (h : OwnA w0 w ad n cap l a) (hx : Ext w w') : OwnA w0 w' ad n cap l a :=
  ⟨World.ownsRow.kept (row := none) h.own ⟨hx.os, hx.tape, hx.output, hx.size, fun k hk _ => hx.block k hk⟩ (by
    right; simp [Value.ownBlock]), h.len, h.ext.trans hx, h.fin⟩
theorem add_off (ad : Addr) (n : Nat) : (ad.add n).off = ad.off + n := by
  unfold Addr.add
  split
  · omega
  · rfl
theorem own_form {B n c : Nat} {w : World} {A : Option Addr} {xs : List Value} (h : w.ownsRow B 69 2 (.slice A n c) n xs) : n = 0 ∨ ∃ ad, A = some ad ∧ ad = ⟨ad.block, 0, none⟩ := by
  rcases h.2 with ⟨h, _⟩ | ⟨g, cap, cur, h, _⟩
  · simp at h; exact .inl h.2.1
  · simp at h; exact .inr ⟨_, h.1, rfl⟩
set_option maxHeartbeats 8000000 in
theorem sortedI_any (v : Value) (l : List Lab) (w : World) (h : Row labC w v l) (hok : ∀ y ∈ l, okL y) (hlen : l.length ≤ 100000) (hg : goodI l = true) :
    Calls Try.prog 49 #[v] w fun e w' => ∃ u a, e = .returned u ∧ Row labC w' u a ∧ a.Perm l ∧ SrtA a.length a ∧ Ext w w' := by
  obtain ⟨i1, hi1, hz3, hz4, hz5⟩ := info_parts Try.labInfo
  obtain ⟨A, n, c, rfl, hn, hnc, hcm, hr⟩ := h
  have hc' : c ≤ 9223372036854775807 := by simpa [maxLen] using hcm
  have HR := Lib.hid hr
  have HN := Lib.hid hn
  have HOK := Lib.hid hok
  have HGD := Lib.hid hg
  have hn1 : n ≤ 100000 := by rw [← hn]; exact hlen
  clear hr hn hcm hok hg
  go_enter Try.func49, Try.ntmps49
  go_wp2_with (first
    | (at_builtin
       refine app_row labC_len labC_one _ rfl (.const (.slice none 0 0)) (.tmp 6) 25 69 rfl i1 (.agg #[.string ByteArray.empty, .string ByteArray.empty]) 32 Try.underlying25 hi1 hz3 hz4 hz5 rfl (by decide) (by decide) w.heap.size (.slice none 0 0) [] rfl (World.ownsRow_nil _ _ _ _) (Nat.le_refl _) A n c l rfl HN.out HR.out (by simp; omega) ?_
       intro v7 w7 hown7 hchg7
       have hext7 := hchg7.to_ext (Nat.le_refl _)
       rw [List.nil_append, HN.out] at hown7
       clear hchg7
       obtain ⟨A7, cap, hv7, h71, h72, h73⟩ := own_slice hown7
       subst hv7))
  rcases own_form hown7 with h0 | ⟨ad, rfl, hfin⟩
  · have hl0 : l = [] := List.eq_nil_of_length_eq_zero (by rw [HN.out]; exact h0)
    have hI : ¬ (0 : Int) < (n : Int) := by omega
    subst hl0
    have HO := Lib.hid hown7
    clear hown7 h72 h73 h71
    go_wp2_with fail
    go_loopw [10] (fun i wr => i = .int .i64 0 ∧ wr = w7) (fun _ _ => 0)
    case atStart => exact ⟨rfl, rfl⟩
    case round =>
      obtain ⟨rfl, rfl⟩ := hrel
      go_wp2_with fail
      go_ret
      exact ⟨_, [], rfl, own_row (by have := HO.out; rw [h0] at this; simpa [h0] using this), List.Perm.refl _, fun p q _ hq => by simp at hq, hext7⟩
  · have HO0 := Lib.hid (⟨hown7, HN.out, hext7, hfin⟩ : OwnA w w7 ad n cap l l)
    clear hown7 h72 h73 hfin hext7
    go_wp2_with fail
    go_loopw [10] (fun i wr => ∃ (k : Nat) (a : List Lab), k ≤ n ∧ i = .int .i64 (k : Int) ∧ a.Perm l ∧ SrtA k a ∧ OwnA w wr ad n cap l a) (fun i _ => n - (intOf i).toNat)
    case atStart => exact ⟨0, l, by omega, rfl, List.Perm.refl _, fun p q _ hq => by omega, HO0.out⟩
    case round =>
      obtain ⟨i, a0, hi, rfl, hperm, hsrt, hoa⟩ := hrel
      have HP0 := Lib.hid hperm
      have HS0 := Lib.hid hsrt
      have HA0 := Lib.hid hoa
      clear hperm hsrt hoa
      by_cases hin : i < n
      · have hiI : (i : Int) < (n : Int) := by omega
        go_upto_block 1 with fail
        go_cut [4] from 12 to 47 (fun _ wx => ∃ a : List Lab, a.Perm l ∧ SrtA (i + 1) a ∧ OwnA w wx ad n cap l a)
        case first =>
          go_wp2_with fail
          go_loopw [5] (fun q wx => ∃ (k : Nat) (a : List Lab), k ≤ i ∧ q = .int .i64 (k : Int) ∧ InsP l i k a ∧ OwnA w wx ad n cap l a) (fun q _ => (intOf q).toNat)
          case atStart => exact ⟨i, a0, Nat.le_refl _, rfl, ins_start HP0.out HS0.out, HA0.out⟩
          case round =>
            obtain ⟨k, a, hki, rfl, hip, hoa⟩ := hrel
            have HI := Lib.hid hip
            have HA := Lib.hid hoa
            clear hip hoa
            rcases Nat.eq_zero_or_pos k with hk0 | hk0
            · have hkI : (k : Int) ≤ 0 := by omega
              have hkd : decide ((0 : Int) < (k : Int)) = false := by rw [decide_eq_false_iff_not]; omega
              have hkd2 : decide (0 < k) = false := by rw [decide_eq_false_iff_not]; omega
              have HI0 : Hid (InsP l i 0 a) := Lib.hid (by rw [← hk0]; exact HI.out)
              clear hk0 HI
              go_wp2_with fail
              go_quiet (fail)
              go_wp2_with fail
              go_meet
              exact ⟨a, HI0.out.perm, ins_zero HI0.out, HA.out.later (Ext.drewN _ _)⟩
            · have hkI : (0 : Int) < (k : Int) := by omega
              have hkJ : (0 : Int) ≤ (k : Int) := by omega
              have hkn : (k : Int) < (n : Int) := by omega
              obtain ⟨j, hj⟩ : ∃ j, j = k - 1 := ⟨_, rfl⟩
              have hj1 : (k : Int) - 1 = (j : Int) := by omega
              have hj2 : IntKind.i64.wrap (j : Int) = (j : Int) := by simp only [IntKind.wrap, IntKind.bits, IntKind.signed]; simp; omega
              have hj3 : IntKind.i64.wrap ((k : Int) - 1) = (j : Int) := by rw [hj1]; exact hj2
              have hj4 : (0 : Int) ≤ (j : Int) := by omega
              have hj5 : (j : Int) < (n : Int) := by omega
              have hal := HA.out.len
              obtain ⟨c0, c1⟩ := lab_cells HA.out.rd (lab_at (a := a) (k := k) (by omega))
              obtain ⟨d0, d1⟩ := lab_cells HA.out.rd (lab_at (a := a) (k := j) (by omega))
              have HJ := Lib.hid hj
              have HAL := Lib.hid hal
              have hnk : (a.getD k noL).1 = nmA a k := rfl
              have hnj : (a.getD j noL).1 = nmA a j := rfl
              obtain ⟨⟨x1, x2⟩, hx⟩ : ∃ q, a.getD k noL = q := ⟨_, rfl⟩
              obtain ⟨⟨y1, y2⟩, hy⟩ : ∃ q, a.getD j noL = q := ⟨_, rfl⟩
              rw [hx] at c0 c1 hnk
              rw [hy] at d0 d1 hnj
              dsimp only at c0 c1 d0 d1 hnk hnj
              have HXY := Lib.hid (⟨hx, hy, hnk, hnj⟩ : a.getD k noL = (x1, x2) ∧ a.getD j noL = (y1, y2) ∧ x1 = nmA a k ∧ y1 = nmA a j)
              clear hx hy hnk hnj hj hal
              cases hlt : ltB x1 y1 with
              | false =>
                have hlt2 : Op.bytesLess x1.toList y1.toList = false := hlt
                have HST : Hid (SrtA (i + 1) a) := Lib.hid (ins_stop HI.out hk0 hki (by rw [HAL.out]; exact hin) (names_differ HI.out.perm HGD.out) (by rw [← HJ.out, ← HXY.out.2.2.1, ← HXY.out.2.2.2]; exact hlt))
                clear hlt
                go_wp2_with fail
                go_quiet (fail)
                go_wp2_with fail
                go_meet
                exact ⟨a, HI.out.perm, HST.out, HA.out.later (Ext.drewN _ _)⟩
              | true =>
                have hlt2 : Op.bytesLess x1.toList y1.toList = true := hlt
                have HSW : Hid (InsP l i j (swapA a k)) := Lib.hid (by
                  have := ins_swap HI.out hk0 hki (by rw [HAL.out]; exact hin) (by rw [← HJ.out, ← HXY.out.2.2.1, ← HXY.out.2.2.2]; exact hlt)
                  rw [← HJ.out] at this
                  exact this)
                have HSA : Hid (swapA a k = (a.set k (y1, y2)).set j (x1, x2)) := Lib.hid (by unfold swapA; rw [← HJ.out, HXY.out.1, HXY.out.2.1])
                clear hlt
                go_wp2_with fail
                go_quiet (fail)
                have hxq := Ext.drewN nq wr
                generalize wr.drewN nq = v5 at hxq ⊢
                have HA5 := Lib.hid (HA.out.later hxq)
                clear hxq c0 c1 d0 d1
                obtain ⟨c0, c1⟩ := lab_cells HA5.out.rd (lab_at (a := a) (k := k) (by rw [HAL.out]; omega))
                obtain ⟨d0, d1⟩ := lab_cells HA5.out.rd (lab_at (a := a) (k := j) (by rw [HAL.out]; omega))
                rw [HXY.out.1] at c0 c1
                rw [HXY.out.2.1] at d0 d1
                dsimp only at c0 c1 d0 d1
                obtain ⟨f0, f1⟩ := HA5.out.frozen k
                obtain ⟨f2, f3⟩ := HA5.out.frozen j
                have HW : Hid (OwnA w ((((v5.setCell (ad.add (k * 2)) (.string y1)).setCell ⟨(ad.add (k * 2)).block, (ad.add (k * 2)).off + 1, none⟩ (.string y2)).setCell (ad.add (j * 2)) (.string x1)).setCell ⟨(ad.add (j * 2)).block, (ad.add (j * 2)).off + 1, none⟩ (.string x2)) ad n cap l (swapA a k)) := Lib.hid (by
                  rw [HSA.out]
                  exact (HA5.out.store k (y1, y2)).store j (x1, x2))
                have hjk : j ≠ k := by have := HJ.out; omega
                have n1 : ad.add (k * 2) ≠ ⟨(ad.add (k * 2)).block, (ad.add (k * 2)).off + 1, none⟩ := fun e => by have := congrArg Addr.off e; simp only [add_off] at this; omega
                have n2 : ad.add (k * 2) ≠ ad.add (j * 2) := fun e => by have := congrArg Addr.off e; simp only [add_off] at this; omega
                have n3 : (⟨(ad.add (k * 2)).block, (ad.add (k * 2)).off + 1, none⟩ : Addr) ≠ ad.add (j * 2) := fun e => by have := congrArg Addr.off e; simp only [add_off] at this; omega
                have n4 : ad.add (k * 2) ≠ ⟨(ad.add (j * 2)).block, (ad.add (j * 2)).off + 1, none⟩ := fun e => by have := congrArg Addr.off e; simp only [add_off] at this; omega
                have n5 : (⟨(ad.add (k * 2)).block, (ad.add (k * 2)).off + 1, none⟩ : Addr) ≠ ⟨(ad.add (j * 2)).block, (ad.add (j * 2)).off + 1, none⟩ := fun e => by have := congrArg Addr.off e; simp only [add_off] at this; omega
                have n6 : ad.add (j * 2) ≠ ⟨(ad.add (j * 2)).block, (ad.add (j * 2)).off + 1, none⟩ := fun e => by have := congrArg Addr.off e; simp only [add_off] at this; omega
                have e1 : (v5.setCell (ad.add (k * 2)) (.string y1)).cell? ⟨(ad.add (k * 2)).block, (ad.add (k * 2)).off + 1, none⟩ = some (.string x2) := by rw [World.cell?_setCell_other (h := n1)]; exact c1
                have e2 : ((v5.setCell (ad.add (k * 2)) (.string y1)).setCell ⟨(ad.add (k * 2)).block, (ad.add (k * 2)).off + 1, none⟩ (.string y2)).cell? (ad.add (j * 2)) = some (.string y1) := by rw [World.cell?_setCell_other (h := n3), World.cell?_setCell_other (h := n2)]; exact d0
                have e3 : (((v5.setCell (ad.add (k * 2)) (.string y1)).setCell ⟨(ad.add (k * 2)).block, (ad.add (k * 2)).off + 1, none⟩ (.string y2)).setCell (ad.add (j * 2)) (.string x1)).cell? ⟨(ad.add (j * 2)).block, (ad.add (j * 2)).off + 1, none⟩ = some (.string y2) := by rw [World.cell?_setCell_other (h := n6), World.cell?_setCell_other (h := n5), World.cell?_setCell_other (h := n4)]; exact d1
                clear n1 n2 n3 n4 n5 n6 hjk
                go_upto_region 8 with fail
                go_region_law (fail)
                all_goals
                  go_wp2_with fail
                  go_roundw
                  case rel => exact ⟨j, swapA a k, by have := HJ.out; omega, by go_num, HSW.out, by first | exact HW.out | exact HW.out.later (Ext.drew _)⟩
                  case measure => simp [intOf]; have := HJ.out; omega
        case rest =>
          obtain ⟨a, hp, hs, ho⟩ := hcut
          have HP1 := Lib.hid hp
          have HS1 := Lib.hid hs
          have HA1 := Lib.hid ho
          clear hp hs ho
          go_wp2_with fail
          go_roundw
          case rel => exact ⟨i + 1, a, by omega, by go_num, HP1.out, HS1.out, HA1.out⟩
          case measure => simp [intOf]; omega
      · obtain rfl : i = n := by omega
        go_wp2_with fail
        go_ret
        exact ⟨_, a0, rfl, own_row (by rw [HA0.out.len]; exact HA0.out.own), HP0.out, by rw [HA0.out.len]; exact HS0.out, HA0.out.ext⟩
end Go.Proofs.Ytccjbmmhdbainaa
