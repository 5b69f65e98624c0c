/- RespJoins walked. -/
import Derived.Test.YtdbboooblbdihaaRsqB
namespace Go.Proofs.Ytdbboooblbdihaa
open Go.RowKit
set_option linter.unusedVariables false
set_option linter.unusedSectionVars false
set_option linter.unusedSimpArgs false
set_option maxRecDepth 100000



theorem enc_list {l : List Itm} (h : rightL l) : (encB l).toList = encL l := by rw [show encB l = bsv (encL l) from if_pos h, bsv_list]
theorem enc_ne {l : List Itm} (h : rightL l) : ((encB l).toList == []) = false := by
  rw [beq_eq_false_iff_ne, enc_list h]
  intro e
  have := encL_pos h
  rw [e] at this
  simp at this
theorem enc_size {l : List Itm} (h : rightL l) (hx : ∀ x ∈ l, ItmOk x) : (encB l).size ≤ l.length * 540 := by
  rw [← size_list, enc_list h]
  exact encL_len l (want_right _ _ _ h) hx
theorem enc_dec {l : List Itm} (h : rightL l) (hx : ∀ x ∈ l, ItmOk x) (s : ByteArray) : decR (encB l ++ s).toList = (l, (encB l).size, 0) := by
  unfold decR
  rw [toList_append2, enc_list h, dec_fwd h hx]
  dsimp only
  rw [List.length_append, ← enc_list h, size_list, size_list]
  congr 2
  omega
theorem enc_dec0 {l : List Itm} (h : rightL l) (hx : ∀ x ∈ l, ItmOk x) : decR (encB l).toList = (l, (encB l).size, 0) := by
  have := enc_dec h hx ⟨#[]⟩
  rwa [show encB l ++ (⟨#[]⟩ : ByteArray) = encB l from bytes_ext (by rw [toList_append2, show (⟨#[]⟩ : ByteArray).toList = [] from toList_mk []]; simp)] at this
theorem cut_back (x y : ByteArray) : (x ++ y).extract x.size (x ++ y).size = y := bytes_ext (by
  rw [ext_drop, toList_append2]
  exact List.drop_left' (by rw [size_list]))
theorem fr_0 : feedL ⟨#[]⟩ false (⟨#[]⟩ ++ ⟨#[]⟩) = ([], ⟨#[]⟩, false) := by
  rw [fr_3, toList_append2, show (⟨#[]⟩ : ByteArray).toList = [] from toList_mk [], List.append_nil, rd_nil]
  rfl
theorem fr_two {ws : List ByteArray} (h : goodW ws) (h0 : ¬ ws.length = 0) : feedL ⟨#[]⟩ false (frameB ws ++ frameB ws) = ([⟨ws, 0⟩, ⟨ws, 0⟩], ⟨#[]⟩, false) := by
  rw [fr_3, toList_append2, frB_list h, rd_frame h, if_neg h0]
  have h2 := rd_frame h []
  rw [List.append_nil, rd_nil, if_neg h0] at h2
  rw [h2]
  rfl
set_option maxHeartbeats 4000000 in
theorem respJoins_any (va vb vw : Value) (a b : List Itm) (ws : List ByteArray) (w : World) (ha : Row itC w va a) (hoa : ∀ x ∈ a, ItmOk x) (hb : Row itC w vb b) (hob : ∀ x ∈ b, ItmOk x) (hw : Txt w vw ws) : Calls Try.prog 9 #[va, vb, vw] w fun e w' => e = .returned (.bool true) ∧ Ext w w' := by
  have HA := Lib.hid ha
  have HB := Lib.hid hb
  have HW := Lib.hid hw
  have HOA := Lib.hid hoa
  have HOB := Lib.hid hob
  obtain ⟨A, n, c, rfl, hn, _⟩ := ha
  obtain ⟨B, m, d, rfl, hm, _⟩ := hb
  obtain ⟨C, q, g, rfl, hq, _⟩ := hw
  subst hn hm hq
  clear hoa hob
  by_cases h1 : a.length ≤ 40
  · have h1B : decide ((40 : Int) < (a.length : Int)) = false := decide_eq_false (by omega)
    have h1C : decide (40 < a.length) = false := decide_eq_false (by omega)
    by_cases h2 : b.length ≤ 40
    · have h2B : decide ((40 : Int) < (b.length : Int)) = false := decide_eq_false (by omega)
      have h2C : decide (40 < b.length) = false := decide_eq_false (by omega)
      by_cases hwa : wordsL ws
      · have hda := decide_eq_true hwa
        have h70 := hwa.1
        go_enter Try.func9, Try.ntmps9
        go_wp2_with fail
        refine (words_any _ ws w HW.out).mono ?_
        rw [hda]
        rintro e _ ⟨rfl, rfl⟩
        clear hda hwa
        go_wp2_with fail
        refine (encode_any _ a w HA.out HOA.out (by omega)).mono ?_
        rintro e w1 ⟨rfl, hx1⟩
        have HX1 := Lib.hid hx1
        clear hx1
        go_wp2_with fail
        refine (encode_any _ b w1 (HB.out.ext HX1.out) HOB.out (by omega)).mono ?_
        rintro e w2 ⟨rfl, hx2⟩
        have HX2 := Lib.hid (HX1.out.trans hx2)
        clear hx2 HX1
        by_cases hra : rightL a
        · have hxe := enc_ne hra
          have hxz := enc_size hra HOA.out
          have hd1 := enc_dec hra HOA.out
          by_cases hrb : rightL b
          · have hye := enc_ne hrb
            have hyz := enc_size hrb HOB.out
            have hd2 := enc_dec0 hrb HOB.out
            have hd1 := hd1 (encB b)
            generalize encB a = x at hxe hxz hd1 ⊢
            generalize encB b = y at hye hyz hd1 hd2 ⊢
            have hb1 : ¬ (9223372036854775807 < x.size + y.size) := by omega
            have hzz : (x ++ y).size = x.size + y.size := by simp
            have D1 := Lib.hid hd1
            have D2 := Lib.hid hd2
            have HCB : Hid ((x ++ y).extract x.size (x.size + y.size) = y) := Lib.hid (by rw [← hzz]; exact cut_back x y)
            have hsl : (0 : Int) ≤ (x.size : Int) ∧ (x.size : Int) ≤ ((x ++ y).size : Int) := by omega
            clear hd1 hd2 hra hrb
            go_wp2_with fail
            refine (decode_any (x ++ y) w2 (by omega)).mono ?_
            rw [D1.out]
            rintro e w3 ⟨v3, rfl, hr3, hx3⟩
            have HX3 := Lib.hid (HX2.out.trans hx3)
            have HR3 := Lib.hid hr3
            obtain ⟨A3, n3, c3, rfl, rfl, _⟩ := id hr3
            clear hr3 hx3 HX2
            go_wp2_with fail
            rw [HCB.out]
            refine (decode_any y w3 (by omega)).mono ?_
            rw [D2.out]
            rintro e w4 ⟨v4, rfl, hr4, hx4⟩
            have HX4 := Lib.hid (HX3.out.trans hx4)
            have HR4 := Lib.hid hr4
            replace HR3 := Lib.hid (HR3.out.ext hx4)
            obtain ⟨A4, n4, c4, rfl, rfl, _⟩ := id hr4
            clear hr4 hx4 HX3
            go_upto_region 10 with fail
            have hxp := Ext.alloc w4 (.cells #[.string ⟨#[]⟩, .bool false] 26)
            have hbp : PrsAt (w4.alloc (.cells #[.string ⟨#[]⟩, .bool false] 26)) w4.heap.size ⟨#[]⟩ false := heap_alloc_new w4 (.cells #[.string ⟨#[]⟩, .bool false] 26 (0, 0))
            generalize w4.alloc (.cells #[.string ⟨#[]⟩, .bool false] 26) = w5 at hxp hbp ⊢
            obtain ⟨p, hp⟩ : ∃ p, p = w4.heap.size := ⟨_, rfl⟩
            rw [← hp] at hbp ⊢
            have HP : Hid (w.heap.size ≤ p ∧ w4.heap.size ≤ p) := Lib.hid (by have := HX4.out.size; omega)
            have HX5 := Lib.hid (HX4.out.trans hxp)
            have HXW := Lib.hid hxp
            have HB5 := Lib.hid hbp
            clear hxp hbp hp
            go_wp2_with fail
            refine (frame_any _ ws w5 (HW.out.ext HX5.out)).mono ?_
            rintro e w6 ⟨rfl, hx6⟩
            have HX6 := Lib.hid (HX5.out.trans hx6)
            have HXW6 := Lib.hid (HXW.out.trans hx6)
            have HB6 : Hid (PrsAt w6 p _ _) := Lib.hid ((Kp.of_ext (L := []) hx6).heap HB5.out (by simp))
            clear hx6 HX5 HB5 HXW
            go_wp2_with fail
            refine (frame_any _ ws w6 (HW.out.ext HX6.out)).mono ?_
            rintro e w7 ⟨rfl, hx7⟩
            have HX7 := Lib.hid (HX6.out.trans hx7)
            have HXW7 := Lib.hid (HXW6.out.trans hx7)
            have HB7 : Hid (PrsAt w7 p _ _) := Lib.hid ((Kp.of_ext (L := []) hx7).heap HB6.out (by simp))
            clear hx7 HX6 HB6 HXW6
            by_cases hg : goodW ws
            · have hfe := frame_ne hg
              have hfz : (frameB ws).size ≤ 50000 := by
                have h1 := headL_len ws.length (by omega)
                have h2 := bodyL_len ws hg.2
                rw [show frameB ws = bsv (frameL ws) from if_pos hg, bsv_size]
                show (headL ws.length ++ bodyL ws).length ≤ _
                rw [List.length_append]
                have := Nat.mul_le_mul_right 536 h70
                omega
              have hft := fr_two hg
              by_cases hw0 : ws.length = 0
              · have hw0B : decide ((0 : Int) < (ws.length : Int)) = false := decide_eq_false (by omega)
                have hw0C : decide (0 < ws.length) = false := decide_eq_false (by omega)
                obtain ⟨f, hff⟩ : ∃ f, frameB ws = f := ⟨_, rfl⟩
                rw [hff] at hfe hfz ⊢
                have HFF := Lib.hid hff
                have hfb : ¬ (9223372036854775807 < f.size + f.size) := by omega
                have hfz2 : (f ++ f).size = f.size + f.size := by simp
                clear hft hff hg hw0
                go_wp2_with fail
                refine (feed_any p _ _ (f ++ f) w7 HB7.out (by show 0 + _ ≤ _; omega)).mono ?_
                rintro e w8 ⟨vc, rfl, hcc, hb8, hk8⟩
                have HX8 := Lib.hid (hk8.to_ext HX7.out (by simpa using HP.out.1))
                have HXW8 := Lib.hid (hk8.to_ext HXW7.out (by simpa using HP.out.2))
                obtain ⟨Ac, cc, rfl⟩ := cmdsAt_slice hcc
                clear hcc hb8 hk8 HX7 HB7 HXW7
                go_wp2_with fail
                refine (frame_any _ ws w8 (HW.out.ext HX8.out)).mono ?_
                rw [HFF.out]
                rintro e w9 ⟨rfl, hx9⟩
                have HX9 := Lib.hid (HX8.out.trans hx9)
                have HXW9 := Lib.hid (HXW8.out.trans hx9)
                clear hx9 HX8 HXW8
                go_wp2_with fail
                replace HR3 := Lib.hid (HR3.out.ext HXW9.out)
                replace HR4 := Lib.hid (HR4.out.ext HXW9.out)
                refine (litems_any _ a w9 HR3.out (by omega)).mono ?_
                rintro e wa ⟨ua, rfl, hua, hxa⟩
                have HXA := Lib.hid (HX9.out.trans hxa)
                have HUA := Lib.hid hua
                replace HR4 := Lib.hid (HR4.out.ext hxa)
                clear hxa hua
                go_wp2_with fail
                refine (litems_any _ a wa (HA.out.ext HXA.out) (by omega)).mono ?_
                rintro e wb ⟨ub, rfl, hub, hxb⟩
                have HXB := Lib.hid (HXA.out.trans hxb)
                have HUB := Lib.hid hub
                replace HUA := Lib.hid (HUA.out.ext hxb)
                replace HR4 := Lib.hid (HR4.out.ext hxb)
                clear hxb hub
                go_wp2_with fail
                refine (ralike_any _ _ _ _ wb HUA.out HUB.out).mono ?_
                rw [show decide (a = a) = true from decide_eq_true rfl]
                rintro e wc ⟨rfl, hxc⟩
                have HXC := Lib.hid (HXB.out.trans hxc)
                replace HR4 := Lib.hid (HR4.out.ext hxc)
                clear hxc
                go_wp2_with fail
                refine (litems_any _ b wc HR4.out (by omega)).mono ?_
                rintro e wd ⟨ud, rfl, hud, hxd⟩
                have HXD := Lib.hid (HXC.out.trans hxd)
                have HUD := Lib.hid hud
                clear hxd hud
                go_wp2_with fail
                refine (litems_any _ b wd (HB.out.ext HXD.out) (by omega)).mono ?_
                rintro e we ⟨ue, rfl, hue, hxe⟩
                have HXE := Lib.hid (HXD.out.trans hxe)
                have HUE := Lib.hid hue
                replace HUD := Lib.hid (HUD.out.ext hxe)
                clear hxe hue
                go_wp2_with fail
                refine (ralike_any _ _ _ _ we HUD.out HUE.out).mono ?_
                rw [show decide (b = b) = true from decide_eq_true rfl]
                rintro e wf ⟨rfl, hxf⟩
                have HXF := Lib.hid (HXE.out.trans hxf)
                clear hxf
                go_wp2_with fail
                refine (known_any _).mono ?_
                rintro e wk ⟨rfl, hxk⟩
                have HXK := Lib.hid ((HXF.out).trans hxk)
                clear hxk
                go_wp2_with fail
                go_ret
                exact ⟨rfl, HXK.out⟩
              · have hft := hft hw0
                have hw0B : decide ((0 : Int) < (ws.length : Int)) = true := decide_eq_true (by omega)
                have hw0C : decide (0 < ws.length) = true := decide_eq_true (by omega)
                obtain ⟨f, hff⟩ : ∃ f, frameB ws = f := ⟨_, rfl⟩
                rw [hff] at hfe hfz hft ⊢
                have HFF := Lib.hid hff
                have HFT := Lib.hid hft
                have hfb : ¬ (9223372036854775807 < f.size + f.size) := by omega
                have hfz2 : (f ++ f).size = f.size + f.size := by simp
                clear hft hff hg hw0
                go_wp2_with fail
                refine (feed_any p _ _ (f ++ f) w7 HB7.out (by show 0 + _ ≤ _; omega)).mono ?_
                rw [HFT.out]
                rintro e w8 ⟨vc, rfl, hcc, hb8, hk8⟩
                have HX8 := Lib.hid (hk8.to_ext HX7.out (by simpa using HP.out.1))
                have HXW8 := Lib.hid (hk8.to_ext HXW7.out (by simpa using HP.out.2))
                obtain ⟨Ac, cc, rfl⟩ := cmdsAt_slice hcc
                clear hcc hb8 hk8 HX7 HB7 HXW7
                go_wp2_with fail
                refine (frame_any _ ws w8 (HW.out.ext HX8.out)).mono ?_
                rw [HFF.out]
                rintro e w9 ⟨rfl, hx9⟩
                have HX9 := Lib.hid (HX8.out.trans hx9)
                have HXW9 := Lib.hid (HXW8.out.trans hx9)
                clear hx9 HX8 HXW8
                go_wp2_with fail
                replace HR3 := Lib.hid (HR3.out.ext HXW9.out)
                replace HR4 := Lib.hid (HR4.out.ext HXW9.out)
                refine (litems_any _ a w9 HR3.out (by omega)).mono ?_
                rintro e wa ⟨ua, rfl, hua, hxa⟩
                have HXA := Lib.hid (HX9.out.trans hxa)
                have HUA := Lib.hid hua
                replace HR4 := Lib.hid (HR4.out.ext hxa)
                clear hxa hua
                go_wp2_with fail
                refine (litems_any _ a wa (HA.out.ext HXA.out) (by omega)).mono ?_
                rintro e wb ⟨ub, rfl, hub, hxb⟩
                have HXB := Lib.hid (HXA.out.trans hxb)
                have HUB := Lib.hid hub
                replace HUA := Lib.hid (HUA.out.ext hxb)
                replace HR4 := Lib.hid (HR4.out.ext hxb)
                clear hxb hub
                go_wp2_with fail
                refine (ralike_any _ _ _ _ wb HUA.out HUB.out).mono ?_
                rw [show decide (a = a) = true from decide_eq_true rfl]
                rintro e wc ⟨rfl, hxc⟩
                have HXC := Lib.hid (HXB.out.trans hxc)
                replace HR4 := Lib.hid (HR4.out.ext hxc)
                clear hxc
                go_wp2_with fail
                refine (litems_any _ b wc HR4.out (by omega)).mono ?_
                rintro e wd ⟨ud, rfl, hud, hxd⟩
                have HXD := Lib.hid (HXC.out.trans hxd)
                have HUD := Lib.hid hud
                clear hxd hud
                go_wp2_with fail
                refine (litems_any _ b wd (HB.out.ext HXD.out) (by omega)).mono ?_
                rintro e we ⟨ue, rfl, hue, hxe⟩
                have HXE := Lib.hid (HXD.out.trans hxe)
                have HUE := Lib.hid hue
                replace HUD := Lib.hid (HUD.out.ext hxe)
                clear hxe hue
                go_wp2_with fail
                refine (ralike_any _ _ _ _ we HUD.out HUE.out).mono ?_
                rw [show decide (b = b) = true from decide_eq_true rfl]
                rintro e wf ⟨rfl, hxf⟩
                have HXF := Lib.hid (HXE.out.trans hxf)
                clear hxf
                go_wp2_with fail
                refine (known_any _).mono ?_
                rintro e wk ⟨rfl, hxk⟩
                have HXK := Lib.hid ((HXF.out).trans hxk)
                clear hxk
                go_wp2_with fail
                go_ret
                exact ⟨rfl, HXK.out⟩
            · have hf0 : frameB ws = ⟨#[]⟩ := if_neg hg
              obtain ⟨f, hff⟩ : ∃ f, frameB ws = f := ⟨_, rfl⟩
              rw [hff] at hf0 ⊢
              have HFF := Lib.hid hff
              have hfe : (f.toList == []) = true := by rw [hf0, show (⟨#[]⟩ : ByteArray).toList = [] from toList_mk []]; rfl
              have hfm : (f.toList != []) = false := by rw [hf0, show (⟨#[]⟩ : ByteArray).toList = [] from toList_mk []]; rfl
              have hfz : f.size ≤ 0 := by rw [hf0]; exact Nat.le_refl _
              have hfb : ¬ (9223372036854775807 < f.size + f.size) := by omega
              have hfz2 : (f ++ f).size = f.size + f.size := by simp
              clear hff hg hf0
              go_wp2_with fail
              refine (feed_any p _ _ (f ++ f) w7 HB7.out (by show 0 + _ ≤ _; omega)).mono ?_
              rintro e w8 ⟨vc, rfl, hcc, hb8, hk8⟩
              have HX8 := Lib.hid (hk8.to_ext HX7.out (by simpa using HP.out.1))
              have HXW8 := Lib.hid (hk8.to_ext HXW7.out (by simpa using HP.out.2))
              obtain ⟨Ac, cc, rfl⟩ := cmdsAt_slice hcc
              clear hcc hb8 hk8 HX7 HB7 HXW7
              go_wp2_with fail
              refine (frame_any _ ws w8 (HW.out.ext HX8.out)).mono ?_
              rw [HFF.out]
              rintro e w9 ⟨rfl, hx9⟩
              have HX9 := Lib.hid (HX8.out.trans hx9)
              have HXW9 := Lib.hid (HXW8.out.trans hx9)
              clear hx9 HX8 HXW8
              go_wp2_with fail
              replace HR3 := Lib.hid (HR3.out.ext HXW9.out)
              replace HR4 := Lib.hid (HR4.out.ext HXW9.out)
              refine (litems_any _ a w9 HR3.out (by omega)).mono ?_
              rintro e wa ⟨ua, rfl, hua, hxa⟩
              have HXA := Lib.hid (HX9.out.trans hxa)
              have HUA := Lib.hid hua
              replace HR4 := Lib.hid (HR4.out.ext hxa)
              clear hxa hua
              go_wp2_with fail
              refine (litems_any _ a wa (HA.out.ext HXA.out) (by omega)).mono ?_
              rintro e wb ⟨ub, rfl, hub, hxb⟩
              have HXB := Lib.hid (HXA.out.trans hxb)
              have HUB := Lib.hid hub
              replace HUA := Lib.hid (HUA.out.ext hxb)
              replace HR4 := Lib.hid (HR4.out.ext hxb)
              clear hxb hub
              go_wp2_with fail
              refine (ralike_any _ _ _ _ wb HUA.out HUB.out).mono ?_
              rw [show decide (a = a) = true from decide_eq_true rfl]
              rintro e wc ⟨rfl, hxc⟩
              have HXC := Lib.hid (HXB.out.trans hxc)
              replace HR4 := Lib.hid (HR4.out.ext hxc)
              clear hxc
              go_wp2_with fail
              refine (litems_any _ b wc HR4.out (by omega)).mono ?_
              rintro e wd ⟨ud, rfl, hud, hxd⟩
              have HXD := Lib.hid (HXC.out.trans hxd)
              have HUD := Lib.hid hud
              clear hxd hud
              go_wp2_with fail
              refine (litems_any _ b wd (HB.out.ext HXD.out) (by omega)).mono ?_
              rintro e we ⟨ue, rfl, hue, hxe⟩
              have HXE := Lib.hid (HXD.out.trans hxe)
              have HUE := Lib.hid hue
              replace HUD := Lib.hid (HUD.out.ext hxe)
              clear hxe hue
              go_wp2_with fail
              refine (ralike_any _ _ _ _ we HUD.out HUE.out).mono ?_
              rw [show decide (b = b) = true from decide_eq_true rfl]
              rintro e wf ⟨rfl, hxf⟩
              have HXF := Lib.hid (HXE.out.trans hxf)
              clear hxf
              go_wp2_with fail
              refine (known_any _).mono ?_
              rintro e wk ⟨rfl, hxk⟩
              have HXK := Lib.hid ((HXF.out).trans hxk)
              clear hxk
              go_wp2_with fail
              go_ret
              exact ⟨rfl, HXK.out⟩
          · have hy0 : encB b = ⟨#[]⟩ := if_neg hrb
            rw [hy0]
            generalize encB a = x at hxe ⊢
            clear hy0 hrb hra hxz hd1
            go_wp2_with fail
            refine (known_any _).mono ?_
            rintro e wk ⟨rfl, hxk⟩
            have HXK := Lib.hid ((HX2.out).trans hxk)
            clear hxk
            go_wp2_with fail
            go_ret
            exact ⟨rfl, HXK.out⟩
        · have hx0 : encB a = ⟨#[]⟩ := if_neg hra
          rw [hx0]
          clear hx0 hra
          go_wp2_with fail
          refine (known_any _).mono ?_
          rintro e wk ⟨rfl, hxk⟩
          have HXK := Lib.hid ((HX2.out).trans hxk)
          clear hxk
          go_wp2_with fail
          go_ret
          exact ⟨rfl, HXK.out⟩
      · have hda := decide_eq_false hwa
        go_enter Try.func9, Try.ntmps9
        go_wp2_with fail
        refine (words_any _ ws w HW.out).mono ?_
        rw [hda]
        rintro e _ ⟨rfl, rfl⟩
        go_wp2_with fail
        refine (known_any _).mono ?_
        rintro e wk ⟨rfl, hxk⟩
        have HXK := Lib.hid ((Ext.refl w).trans hxk)
        clear hxk
        go_wp2_with fail
        go_ret
        exact ⟨rfl, HXK.out⟩
    · have h2B : decide ((40 : Int) < (b.length : Int)) = true := decide_eq_true (by omega)
      have h2C : decide (40 < b.length) = true := decide_eq_true (by omega)
      go_enter Try.func9, Try.ntmps9
      go_wp2_with fail
      refine (known_any _).mono ?_
      rintro e wk ⟨rfl, hxk⟩
      have HXK := Lib.hid ((Ext.refl w).trans hxk)
      clear hxk
      go_wp2_with fail
      go_ret
      exact ⟨rfl, HXK.out⟩
  · have h1B : decide ((40 : Int) < (a.length : Int)) = true := decide_eq_true (by omega)
    have h1C : decide (40 < a.length) = true := decide_eq_true (by omega)
    go_enter Try.func9, Try.ntmps9
    go_wp2_with fail
    refine (known_any _).mono ?_
    rintro e wk ⟨rfl, hxk⟩
    have HXK := Lib.hid ((Ext.refl w).trans hxk)
    clear hxk
    go_wp2_with fail
    go_ret
    exact ⟨rfl, HXK.out⟩
end Go.Proofs.Ytdbboooblbdihaa
