/- RespFrames walked. -/
import Derived.Test.YtdbboooblbdihaaRsqA
namespace Go.Proofs.Ytdbboooblbdihaa
open Go.RowKit
set_option linter.unusedVariables false
set_option linter.unusedSectionVars false
set_option linter.unusedSimpArgs false
set_option maxRecDepth 100000



theorem emp_app (s : ByteArray) : (⟨#[]⟩ : ByteArray) ++ s = s := bytes_ext (by rw [toList_append2, show (⟨#[]⟩ : ByteArray).toList = [] from toList_mk []]; rfl)
theorem ext_take (s : ByteArray) (k : Nat) : (s.extract 0 k).toList = s.toList.take k := by
  rw [Lib.toList_data, Lib.toList_data]
  simp
theorem frB_list {ws : List ByteArray} (h : goodW ws) : (frameB ws).toList = frameL ws := by rw [show frameB ws = bsv (frameL ws) from if_pos h, bsv_list]
theorem fr_1 {ws : List ByteArray} (h : goodW ws) {k : Nat} (hk : k < (frameB ws).size) : feedL ⟨#[]⟩ false ((frameB ws).extract 0 k) = ([], (frameB ws).extract 0 k, false) := by
  unfold feedL
  rw [if_neg (by simp), emp_app, ext_take, frB_list h]
  have hl : k < (frameL ws).length := by rw [← frB_list h, size_list]; exact hk
  rw [rd_short h (l := (frameL ws).take k) (m := (frameL ws).drop k) (List.take_append_drop _ _).symm (by
    intro e
    have := congrArg List.length e
    rw [List.length_drop, List.length_nil] at this
    omega)]
  have e : bsv ((frameL ws).take k) = (frameB ws).extract 0 k := bytes_ext (by rw [bsv_list, ext_take, frB_list h])
  rw [e]
theorem fr_2 {ws : List ByteArray} (h : goodW ws) {k : Nat} : feedL ((frameB ws).extract 0 k) false ((frameB ws).extract k (frameB ws).size) = (if ws.length = 0 then [] else [⟨ws, 0⟩], ⟨#[]⟩, false) := by
  unfold feedL
  have e : rdAll ((frameB ws).extract 0 k ++ (frameB ws).extract k (frameB ws).size).toList = (if ws.length = 0 then [] else [⟨ws, 0⟩], [], false) := by
    rw [toList_append2, ext_take, ext_drop, List.take_append_drop, frB_list h]
    have := rd_frame h []
    rw [List.append_nil, rd_nil] at this
    exact this
  rw [if_neg (by simp), e]
  rfl
theorem fr_3 (s : ByteArray) : feedL ⟨#[]⟩ false s = ((rdAll s.toList).1, bsv (rdAll s.toList).2.1, (rdAll s.toList).2.2) := by
  unfold feedL
  rw [if_neg (by simp), emp_app]
theorem rd_count (l : List UInt8) : (rdAll l).1.length ≤ l.length + 1 := by
  have h : ∀ (n : Nat) (l : List UInt8), l.length ≤ n → (rdAll l).1.length ≤ l.length + 1 := by
    intro n
    induction n with
    | zero =>
      intro l hl
      obtain rfl : l = [] := List.eq_nil_of_length_eq_zero (by omega)
      rw [rd_nil]
      simp
    | succ n ih =>
      intro l hl
      cases hc : cmdP l with
      | er c =>
        rw [rdAll_er hc]
        split <;> simp
      | ok ws l' =>
        have h1 := cmd_len hc
        have h2 := ih l' (by omega)
        rw [rdAll_ok hc]
        dsimp only
        split
        · omega
        · rw [List.length_cons]; omega
  exact h _ l (Nat.le_refl _)
theorem cmds_one {w0 w : World} {A : Option Addr} {n c : Nat} {ws : List ByteArray} (h : CmdsAt w0 w (.slice A n c) [⟨ws, 0⟩]) : ∃ ad sA sn sc, A = some ad ∧ n = 1 ∧ w.cell? ad = some (.slice sA sn sc) ∧ w.cell? ⟨ad.block, ad.off + 1, none⟩ = some (.int .i64 0) ∧ Txt w (.slice sA sn sc) ws := by
  obtain ⟨xs, hown, hl, hin⟩ := h
  obtain ⟨A', c', e⟩ := own_len hown
  injection e with e1 e2 e3
  have hx1 : xs.length = 1 := by rw [hl]; rfl
  subst e1 e3
  rw [hx1] at e2
  subst e2
  obtain ⟨x, rfl⟩ : ∃ x, xs = [x] := by
    match xs, hx1 with
    | [x], _ => exact ⟨x, rfl⟩
  obtain ⟨ho, he⟩ := hin 0 x ⟨ws, 0⟩ rfl rfl
  obtain ⟨B, m, d, e4, hrow⟩ := own_row hown
  injection e4 with e5 e6 e7
  subst e5
  obtain ⟨_, _, _, hrd⟩ := hrow
  obtain ⟨ad, rfl⟩ := row_some hrd cmdC_len (by decide) (by simp)
  obtain ⟨c0, c1⟩ := cmd_parts hrd (i := 0) (x := x) rfl
  have ht := ho.txt
  obtain ⟨sA, sn, sc, e8, _⟩ := id ht
  rw [e8] at ht c0
  have he0 : x.e = 0 := he
  rw [he0] at c1
  have ea : ad.add (0 * 2) = ad := by simp [Addr.add]
  rw [ea] at c0 c1
  exact ⟨ad, sA, sn, sc, rfl, rfl, c0, c1, ht⟩
set_option maxHeartbeats 4000000 in
theorem respFrames_any (v : Value) (l : List ByteArray) (cut : Nat) (tail : ByteArray) (w : World) (hv : Txt w v l) (hcut : cut < 65536) (htail : tail.size ≤ 9223372036854775807) : Calls Try.prog 4 #[v, .int .u16 (cut : Int), .string tail] w fun e w' => e = .returned (.bool true) ∧ Ext w w' := by
  have HV := Lib.hid hv
  obtain ⟨A, n, c, rfl, hn, hnc, hcm, hr⟩ := hv
  subst hn
  clear hr
  by_cases hwa : wordsL l
  · have hda := decide_eq_true hwa
    by_cases h300 : tail.size ≤ 300
    · have h3B : decide ((300 : Int) < (tail.size : Int)) = false := decide_eq_false (by omega)
      have h3C : decide (300 < tail.size) = false := decide_eq_false (by omega)
      have h70 := hwa.1
      go_enter Try.func4, Try.ntmps4
      go_wp2_with fail
      refine (words_any _ l w HV.out).mono ?_
      rw [hda]
      rintro e _ ⟨rfl, rfl⟩
      clear hda hwa
      go_wp2_with fail
      refine (frame_any _ l w HV.out).mono ?_
      rintro e w1 ⟨rfl, hx1⟩
      have HX1 := Lib.hid hx1
      clear hx1
      go_wp2_with fail
      refine (rframe_any _ l w1 (HV.out.ext HX1.out)).mono ?_
      rintro e w2 ⟨rfl, hx2⟩
      have HX2 := Lib.hid (HX1.out.trans hx2)
      clear hx2 HX1
      by_cases hg : goodW l
      · have hne := frame_ne hg
        have hneL : ((frameB l).toList == (frameB l).toList) = true := by simp
        have hneM : ((frameB l).toList != (frameB l).toList) = false := by simp
        have hgt := frame_ge hg
        have hsz : (frameB l).size ≤ 50000 := by
          have h1 := headL_len l.length (by omega)
          have h2 := bodyL_len l hg.2
          rw [show frameB l = bsv (frameL l) from if_pos hg, bsv_size]
          show (headL l.length ++ bodyL l).length ≤ _
          rw [List.length_append]
          have := Nat.mul_le_mul_right 536 h70
          omega
        obtain ⟨k, hk⟩ : ∃ k, cut % (frameB l).size = k := ⟨_, rfl⟩
        have hkl : k < (frameB l).size := by rw [← hk]; exact Nat.mod_lt _ (by omega)
        have hrem1 : ((cut : Int)).tmod ((frameB l).size : Int) = (k : Int) := by rw [Int.tmod_eq_emod_of_nonneg (Int.natCast_nonneg cut), ← Int.natCast_emod, hk]
        have hrem2 : (cut : Int) % ((frameB l).size : Int) = (k : Int) := by rw [← hk, Int.natCast_emod]
        have f1 := fr_1 hg hkl
        have f2 := fr_2 hg (k := k)
        obtain ⟨E, hE⟩ : ∃ E : List Cmd, (if l.length = 0 then [] else [⟨l, 0⟩]) = E := ⟨_, rfl⟩
        rw [hE] at f2
        obtain ⟨D, hD⟩ : ∃ D : List Cmd × ByteArray × Bool, feedL ⟨#[]⟩ false tail = D := ⟨_, rfl⟩
        have hDl : D.1.length ≤ 301 := by rw [← hD, fr_3]; have := rd_count tail.toList; rw [size_list] at this; dsimp only; omega
        have HE := Lib.hid hE
        have HD := Lib.hid hD
        clear hE hD
        have HG := Lib.hid hg
        have hz1 : ((frameB l).extract 0 k).size ≤ 50000 := by rw [← size_list, ext_take, List.length_take, size_list]; have := Nat.min_le_left k (frameB l).size; omega
        have hz2 : ((frameB l).extract k (frameB l).size).size ≤ 50000 := by rw [← size_list, ext_drop, List.length_drop, size_list]; omega
        have hkI : (0 : Int) ≤ (k : Int) ∧ (k : Int) ≤ ((frameB l).size : Int) := by omega
        have hnzB : (((frameB l).size : Int) == 0) = false := by rw [beq_eq_false_iff_ne]; omega
        clear hg hk
        generalize frameB l = f at hne hneL hneM hgt hsz hkl hrem1 hrem2 f1 f2 hz1 hz2 hkI hnzB ⊢
        have F1 := Lib.hid f1
        have F2 := Lib.hid f2
        clear f1 f2
        go_upto_region 7 with fail
        have hxp := Ext.alloc w2 (.cells #[.string ⟨#[]⟩, .bool false] 26)
        have hbp : PrsAt (w2.alloc (.cells #[.string ⟨#[]⟩, .bool false] 26)) w2.heap.size ⟨#[]⟩ false := heap_alloc_new w2 (.cells #[.string ⟨#[]⟩, .bool false] 26 (0, 0))
        generalize w2.alloc (.cells #[.string ⟨#[]⟩, .bool false] 26) = w3 at hxp hbp ⊢
        obtain ⟨p, hp⟩ : ∃ p, p = w2.heap.size := ⟨_, rfl⟩
        rw [← hp] at hbp ⊢
        have HP : Hid (w.heap.size ≤ p) := Lib.hid (by have := HX2.out.size; omega)
        have HX3 := Lib.hid (HX2.out.trans hxp)
        have HB3 := Lib.hid hbp
        clear hxp hbp hp HX2
        go_wp2_with fail
        refine (feed_any p _ _ (f.extract 0 k) w3 HB3.out (by show 0 + _ ≤ _; omega)).mono ?_
        rw [F1.out]
        rintro e w4 ⟨va, rfl, hca, hb4, hk4⟩
        have HX4 := Lib.hid (hk4.to_ext HX3.out (by simpa using HP.out))
        obtain ⟨A1, c1, rfl⟩ := cmdsAt_slice hca
        have HB4 := Lib.hid hb4
        clear hca hb4 hk4 HX3 HB3
        go_wp2_with fail
        refine (feed_any p _ _ (f.extract k f.size) w4 HB4.out (by show (f.extract 0 k).size + (f.extract k f.size).size ≤ _; omega)).mono ?_
        rw [F2.out]
        rintro e w5 ⟨vb, rfl, hcb, hb5, hk5⟩
        have HX5 := Lib.hid (hk5.to_ext HX4.out (by simpa using HP.out))
        obtain ⟨A2, c2, rfl⟩ := cmdsAt_slice hcb
        have HCB := Lib.hid hcb
        have HB5 := Lib.hid hb5
        clear hcb hb5 hk5 HX4 HB4
        go_wp2_with fail
        refine (feed_any p _ _ tail w5 HB5.out (by show 0 + _ ≤ _; omega)).mono ?_
        rw [HD.out]
        rintro e w6 ⟨vc, rfl, hcc, hb6, hk6⟩
        have HX6 := Lib.hid (hk6.to_ext HX5.out (by simpa using HP.out))
        replace HCB := Lib.hid (HCB.out.prs HB5.out hk6)
        obtain ⟨A3, c3, rfl⟩ := cmdsAt_slice hcc
        have HCC := Lib.hid hcc
        clear hcc hb6 hk6 HX5 HB5
        go_upto_region 12 with fail
        have hxp := Ext.alloc w6 (.cells #[.string ⟨#[]⟩, .bool false] 26)
        have hbp : PrsAt (w6.alloc (.cells #[.string ⟨#[]⟩, .bool false] 26)) w6.heap.size ⟨#[]⟩ false := heap_alloc_new w6 (.cells #[.string ⟨#[]⟩, .bool false] 26 (0, 0))
        generalize w6.alloc (.cells #[.string ⟨#[]⟩, .bool false] 26) = w7 at hxp hbp ⊢
        obtain ⟨q, hq⟩ : ∃ q, q = w6.heap.size := ⟨_, rfl⟩
        rw [← hq] at hbp ⊢
        have HQ : Hid (w.heap.size ≤ q) := Lib.hid (by have := HX6.out.size; omega)
        have HX7 := Lib.hid (HX6.out.trans hxp)
        replace HCB := Lib.hid (HCB.out.ext hxp)
        replace HCC := Lib.hid (HCC.out.ext hxp)
        have HB7 := Lib.hid hbp
        clear hxp hbp hq HX6
        go_wp2_with fail
        refine (feed_any q _ _ tail w7 HB7.out (by show 0 + _ ≤ _; omega)).mono ?_
        rw [HD.out]
        rintro e w8 ⟨vd, rfl, hcd, hb8, hk8⟩
        have HX8 := Lib.hid (hk8.to_ext HX7.out (by simpa using HQ.out))
        replace HCB := Lib.hid (HCB.out.prs HB7.out hk8)
        replace HCC := Lib.hid (HCC.out.prs HB7.out hk8)
        obtain ⟨A4, c4, rfl⟩ := cmdsAt_slice hcd
        have HCD := Lib.hid hcd
        clear hcd hb8 hk8 HX7 HB7
        by_cases hl0 : l.length = 0
        · have hl0B : ((l.length : Int) == 0) = true := by rw [beq_iff_eq]; omega
          have hE : E = [] := by rw [← HE.out, if_pos hl0]
          subst hE
          clear hl0 HE
          go_wp2_with fail
          refine (lplain_any _ _ w8 HCC.out.r (by omega)).mono ?_
          rintro e wa ⟨ua, rfl, hua, hxa⟩
          have HXA := Lib.hid (HX8.out.trans hxa)
          have HUA := Lib.hid hua
          replace HCD := Lib.hid (HCD.out.ext hxa)
          clear hxa hua
          go_wp2_with fail
          refine (lplain_any _ _ wa HCD.out.r (by omega)).mono ?_
          rintro e wb ⟨ub, rfl, hub, hxb⟩
          have HXB := Lib.hid (HXA.out.trans hxb)
          have HUB := Lib.hid hub
          replace HUA := Lib.hid (HUA.out.ext hxb)
          clear hxb hub
          go_wp2_with fail
          refine (rsame_any _ _ _ _ wb HUA.out HUB.out).mono ?_
          rw [decide_eq_true rfl]
          rintro e wc ⟨rfl, hxc⟩
          have HXC := Lib.hid (HXB.out.trans hxc)
          clear hxc
          go_wp2_with fail
          refine (known_any _).mono ?_
          rintro e wk ⟨rfl, hxk⟩
          have HXK := Lib.hid ((HXC.out).trans hxk)
          clear hxk
          go_wp2_with fail
          go_ret
          exact ⟨rfl, HXK.out⟩
        · have hl0B : ((l.length : Int) == 0) = false := by rw [beq_eq_false_iff_ne]; omega
          have hE : E = [⟨l, 0⟩] := by rw [← HE.out, if_neg hl0]
          subst hE
          obtain ⟨bd, sA, sn, sc, hA2, _, e0, e1, ht⟩ := cmds_one HCB.out
          subst hA2
          have HT := Lib.hid ht
          clear hl0 HE ht
          go_wp2_with fail
          refine (same_txt _ _ l l w8 HT.out (HV.out.ext HX8.out)).mono ?_
          rw [show sameB l l = true by simp [sameB]]
          rintro e w9 ⟨rfl, qq, rfl⟩
          have hxq := Ext.drewN qq w8
          generalize w8.drewN qq = w9 at hxq ⊢
          have e2 := hxq.cell e1
          have HX9 := Lib.hid (HX8.out.trans hxq)
          replace HCC := Lib.hid (HCC.out.ext hxq)
          replace HCD := Lib.hid (HCD.out.ext hxq)
          clear e0 e1 HX8 HT HCB hxq
          go_wp2_with fail
          refine (lplain_any _ _ w9 HCC.out.r (by omega)).mono ?_
          rintro e wa ⟨ua, rfl, hua, hxa⟩
          have HXA := Lib.hid (HX9.out.trans hxa)
          have HUA := Lib.hid hua
          replace HCD := Lib.hid (HCD.out.ext hxa)
          clear hxa hua
          go_wp2_with fail
          refine (lplain_any _ _ wa HCD.out.r (by omega)).mono ?_
          rintro e wb ⟨ub, rfl, hub, hxb⟩
          have HXB := Lib.hid (HXA.out.trans hxb)
          have HUB := Lib.hid hub
          replace HUA := Lib.hid (HUA.out.ext hxb)
          clear hxb hub
          go_wp2_with fail
          refine (rsame_any _ _ _ _ wb HUA.out HUB.out).mono ?_
          rw [decide_eq_true rfl]
          rintro e wc ⟨rfl, hxc⟩
          have HXC := Lib.hid (HXB.out.trans hxc)
          clear hxc
          go_wp2_with fail
          refine (known_any _).mono ?_
          rintro e wk ⟨rfl, hxk⟩
          have HXK := Lib.hid ((HXC.out).trans hxk)
          clear hxk
          go_wp2_with fail
          go_ret
          exact ⟨rfl, HXK.out⟩
      · have hb0 : frameB l = ⟨#[]⟩ := if_neg hg
        rw [hb0]
        go_wp2_with fail
        refine (rframe_any _ l w2 (HV.out.ext HX2.out)).mono ?_
        rw [hb0]
        rintro e w3 ⟨rfl, hx3⟩
        have HX3 := Lib.hid (HX2.out.trans hx3)
        clear hx3 hb0
        go_wp2_with fail
        refine (known_any _).mono ?_
        rintro e wk ⟨rfl, hxk⟩
        have HXK := Lib.hid ((HX3.out).trans hxk)
        clear hxk
        go_wp2_with fail
        go_ret
        exact ⟨rfl, HXK.out⟩
    · have h3B : decide ((300 : Int) < (tail.size : Int)) = true := decide_eq_true (by omega)
      have h3C : decide (300 < tail.size) = true := decide_eq_true (by omega)
      go_enter Try.func4, Try.ntmps4
      go_wp2_with fail
      refine (words_any _ l w HV.out).mono ?_
      rw [hda]
      rintro e _ ⟨rfl, rfl⟩
      go_wp2_with fail
      refine (known_any _).mono ?_
      rintro e wk ⟨rfl, hxk⟩
      have HXK := Lib.hid ((Ext.refl w).trans hxk)
      clear hxk
      go_wp2_with fail
      go_ret
      exact ⟨rfl, HXK.out⟩
  · have hda := decide_eq_false hwa
    go_enter Try.func4, Try.ntmps4
    go_wp2_with fail
    refine (words_any _ l w HV.out).mono ?_
    rw [hda]
    rintro e _ ⟨rfl, rfl⟩
    go_wp2_with fail
    refine (known_any _).mono ?_
    rintro e wk ⟨rfl, hxk⟩
    have HXK := Lib.hid ((Ext.refl w).trans hxk)
    clear hxk
    go_wp2_with fail
    go_ret
    exact ⟨rfl, HXK.out⟩
end Go.Proofs.Ytdbboooblbdihaa
