/- The walks of the six statements of layer 8: each answers true, and all old memory stays as it was. -/
import Derived.Test.YtafnahmdjmobcaaSetsT
namespace Go.Proofs.Ytafnahmdjmobcaa
open Go.RowKit Sets


set_option maxRecDepth 100000 in
set_option maxHeartbeats 2000000 in
theorem setsTell_any (va vb : Value) (xs ys : List ByteArray) (s : ByteArray) (w : World) (ha : Txt w va xs) (hb : Txt w vb ys) (hfa : Fit xs) (hfb : Fit ys) (hs : s.size ≤ 9223372036854775807) :
    Calls Try.prog 3 #[va, vb, .string s] w fun e w' => e = .returned (.bool true) ∧ Ext w w' := by
  cases h1 : lightB xs with
  | false =>
    go_enter Try.func3, Try.ntmps3
    go_wp2_with fail
    refine (light_no va xs h1 _ ha hfa).mono ?_
    rintro e w1 ⟨rfl, rfl⟩
    go_wp2_with fail
    refine (known_any _).mono ?_
    rintro e wk ⟨rfl, ek⟩
    go_wp2_with fail
    go_ret
    exact ⟨rfl, ek⟩
  | true =>
    cases h2 : lightB ys with
    | false =>
      go_enter Try.func3, Try.ntmps3
      go_wp2_with fail
      refine (light_yes va xs h1 _ ha hfa).mono ?_
      rintro e w1 ⟨rfl, rfl⟩
      go_wp2_with fail
      refine (light_no vb ys h2 _ hb hfb).mono ?_
      rintro e w2 ⟨rfl, rfl⟩
      go_wp2_with fail
      refine (known_any _).mono ?_
      rintro e wk ⟨rfl, ek⟩
      go_wp2_with fail
      go_ret
      exact ⟨rfl, ek⟩
    | true =>
      by_cases h3 : s.size ≤ 100
      · have l1 := light_len h1
        have l2 := light_len h2
        obtain ⟨p, hp⟩ : ∃ p, rise xs = p := ⟨_, rfl⟩
        have hpp : (p == p) = true := by simp
        obtain ⟨r, hr⟩ : ∃ r, hasB xs s = r := ⟨_, rfl⟩
        have hrr : (r == r) = true := by simp
        have H1 := Lib.hid h1
        have H2 := Lib.hid h2
        have HP := Lib.hid hp
        have HR := Lib.hid hr
        clear h1 h2 hp hr
        go_enter Try.func3, Try.ntmps3
        go_wp2_with fail
        refine (light_yes va xs H1.out _ ha hfa).mono ?_
        rintro e w1 ⟨rfl, rfl⟩
        go_wp2_with fail
        refine (light_yes vb ys H2.out _ hb hfb).mono ?_
        rintro e w2 ⟨rfl, rfl⟩
        go_wp2_with fail
        have E := Ext.refl w
        refine (rof_txt va xs _ (ha.ext E) hfa (by omega)).mono ?_
        rintro e w3 ⟨x, rfl, hx, e3⟩
        replace E := E.trans e3
        go_wp2_with fail
        have hone : Txt (w3.alloc (.cells #[.string s] 9)) (.slice (some ⟨w3.heap.size, 0, none⟩) 1 1) [s] := txt_one w3 s 9
        replace E := E.alloc_ (.cells #[.string s] 9)
        replace hx := hx.ext (Ext.alloc w3 (.cells #[.string s] 9))
        have F := Ext.refl (w3.alloc (.cells #[.string s] 9))
        refine (right_ext va xs p HP.out _ (ha.ext E)).mono ?_
        rintro e w4 ⟨rfl, e4⟩
        replace E := E.trans e4
        replace F := F.trans e4
        go_wp2_with fail
        refine (rright_txt va xs _ (ha.ext E) hfa).mono ?_
        rintro e w5 ⟨rfl, q, rfl⟩
        rw [HP.out]
        replace E := E.drewN_ q
        replace F := F.drewN_ q
        go_wp2_with fail
        refine (of_txt va xs _ (ha.ext E) (by omega)).mono ?_
        rintro e w6 ⟨u6, rfl, hu6, e6⟩
        replace E := E.trans e6
        replace F := F.trans e6
        go_wp2_with fail
        refine (same_yes u6 x _ _ _ hu6 (hx.ext F) rfl).mono ?_
        rintro e w7 ⟨rfl, e7⟩
        replace E := E.trans e7
        replace F := F.trans e7
        go_wp2_with fail
        refine (has_ext va xs s r HR.out _ (ha.ext E)).mono ?_
        rintro e w8 ⟨rfl, e8⟩
        replace E := E.trans e8
        replace F := F.trans e8
        go_wp2_with fail
        refine (rhas_txt va xs s _ (ha.ext E)).mono ?_
        rintro e w9 ⟨rfl, rfl⟩
        rw [HR.out]
        go_wp2_with fail
        refine (and_txt va vb xs ys _ (ha.ext E) (hb.ext E) (by omega)).mono ?_
        rintro e w10 ⟨u10, rfl, hu10, e10⟩
        replace E := E.trans e10
        replace F := F.trans e10
        go_wp2_with fail
        refine (rpick_txt va vb xs ys true _ (ha.ext E) (hb.ext E) hfa (by omega)).mono ?_
        rintro e w11 ⟨u11, rfl, hu11, e11⟩
        replace E := E.trans e11
        replace F := F.trans e11
        go_wp2_with fail
        refine (same_yes _ _ _ _ _ (hu10.ext e11) hu11 (f_and xs ys)).mono ?_
        rintro e w12 ⟨rfl, e12⟩
        replace E := E.trans e12
        replace F := F.trans e12
        go_wp2_with fail
        refine (less_txt va vb xs ys _ (ha.ext E) (hb.ext E) (by omega)).mono ?_
        rintro e w13 ⟨u13, rfl, hu13, e13⟩
        replace E := E.trans e13
        replace F := F.trans e13
        go_wp2_with fail
        refine (rpick_txt va vb xs ys false _ (ha.ext E) (hb.ext E) hfa (by omega)).mono ?_
        rintro e w14 ⟨u14, rfl, hu14, e14⟩
        replace E := E.trans e14
        replace F := F.trans e14
        go_wp2_with fail
        refine (same_yes _ _ _ _ _ (hu13.ext e14) hu14 (f_less xs ys)).mono ?_
        rintro e w15 ⟨rfl, e15⟩
        replace E := E.trans e15
        replace F := F.trans e15
        go_wp2_with fail
        refine (or_txt va vb xs ys _ (ha.ext E) (hb.ext E) (by omega)).mono ?_
        rintro e w16 ⟨u16, rfl, hu16, e16⟩
        replace E := E.trans e16
        replace F := F.trans e16
        go_wp2_with fail
        refine (ror_txt va vb xs ys _ (ha.ext E) (hb.ext E) (by intro y hy; rcases List.mem_append.1 hy with h | h; exact hfa y h; exact hfb y h) (by omega)).mono ?_
        rintro e w17 ⟨u17, rfl, hu17, e17⟩
        replace E := E.trans e17
        replace F := F.trans e17
        go_wp2_with fail
        refine (same_yes _ _ _ _ _ (hu16.ext e17) hu17 (f_or xs ys)).mono ?_
        rintro e w18 ⟨rfl, e18⟩
        replace E := E.trans e18
        replace F := F.trans e18
        go_wp2_with fail
        refine (add_txt va s xs _ (ha.ext E) (by omega)).mono ?_
        rintro e w19 ⟨u19, rfl, hu19, e19⟩
        replace E := E.trans e19
        replace F := F.trans e19
        go_wp2_with fail
        refine (ror_txt va _ xs [s] _ (ha.ext E) (hone.ext F) (by intro y hy; rcases List.mem_append.1 hy with h | h; exact hfa y h; simp at h; subst h; exact hs) (by simp; omega)).mono ?_
        rintro e w20 ⟨u20, rfl, hu20, e20⟩
        replace E := E.trans e20
        replace F := F.trans e20
        go_wp2_with fail
        refine (same_yes _ _ _ _ _ (hu19.ext e20) hu20 (f_or xs [s])).mono ?_
        rintro e w21 ⟨rfl, e21⟩
        replace E := E.trans e21
        replace F := F.trans e21
        go_wp2_with fail
        refine (del_txt va s xs _ (ha.ext E) (by omega)).mono ?_
        rintro e w22 ⟨u22, rfl, hu22, e22⟩
        replace E := E.trans e22
        replace F := F.trans e22
        go_wp2_with fail
        refine (rpick_txt va _ xs [s] false _ (ha.ext E) (hone.ext F) hfa (by omega)).mono ?_
        rintro e w23 ⟨u23, rfl, hu23, e23⟩
        replace E := E.trans e23
        go_wp2_with fail
        refine (same_yes _ _ _ _ _ (hu22.ext e23) hu23 (f_less xs [s])).mono ?_
        rintro e w24 ⟨rfl, e24⟩
        replace E := E.trans e24
        go_wp2_with fail
        refine (known_any _).mono ?_
        rintro e w25 ⟨rfl, e25⟩
        go_wp2_with fail
        go_ret
        exact ⟨rfl, E.trans e25⟩
      · go_enter Try.func3, Try.ntmps3
        go_wp2_with fail
        refine (light_yes va xs h1 _ ha hfa).mono ?_
        rintro e w1 ⟨rfl, rfl⟩
        go_wp2_with fail
        refine (light_yes vb ys h2 _ hb hfb).mono ?_
        rintro e w2 ⟨rfl, rfl⟩
        go_wp2_with fail
        refine (known_any _).mono ?_
        rintro e wk ⟨rfl, ek⟩
        go_wp2_with fail
        go_ret
        exact ⟨rfl, ek⟩

set_option maxRecDepth 100000 in
set_option maxHeartbeats 2000000 in
theorem setsMany_any (va : Value) (xs : List ByteArray) (w : World) (ha : Txt w va xs) (hfa : Fit xs) :
    Calls Try.prog 8 #[va] w fun e w' => e = .returned (.bool true) ∧ Ext w w' := by
  cases h1 : lightB xs with
  | false =>
    go_enter Try.func8, Try.ntmps8
    go_wp2_with fail
    refine (light_no va xs h1 _ ha hfa).mono ?_
    rintro e w1 ⟨rfl, rfl⟩
    go_wp2_with fail
    refine (known_any _).mono ?_
    rintro e wk ⟨rfl, ek⟩
    go_wp2_with fail
    go_ret
    exact ⟨rfl, ek⟩
  | true =>
    have l1 := light_len h1
    have H1 := Lib.hid h1
    clear h1
    go_enter Try.func8, Try.ntmps8
    go_wp2_with fail
    refine (light_yes va xs H1.out _ ha hfa).mono ?_
    rintro e w1 ⟨rfl, rfl⟩
    go_wp2_with fail
    have E := Ext.refl w
    refine (of_txt va xs _ (ha.ext E) (by omega)).mono ?_
    rintro e w2 ⟨l, rfl, hl, e2⟩
    replace E := E.trans e2
    have F := Ext.refl w2
    go_wp2_with fail
    refine (and_txt va va xs xs _ (ha.ext E) (ha.ext E) (by omega)).mono ?_
    rintro e w3 ⟨u3, rfl, hu3, e3⟩
    replace E := E.trans e3
    replace F := F.trans e3
    go_wp2_with fail
    refine (same_yes _ _ _ _ _ hu3 (hl.ext F) (m1 xs)).mono ?_
    rintro e w4 ⟨rfl, e4⟩
    replace E := E.trans e4
    replace F := F.trans e4
    go_wp2_with fail
    refine (or_txt va va xs xs _ (ha.ext E) (ha.ext E) (by omega)).mono ?_
    rintro e w5 ⟨u5, rfl, hu5, e5⟩
    replace E := E.trans e5
    replace F := F.trans e5
    go_wp2_with fail
    refine (same_yes _ _ _ _ _ hu5 (hl.ext F) (m2 xs)).mono ?_
    rintro e w6 ⟨rfl, e6⟩
    replace E := E.trans e6
    replace F := F.trans e6
    go_wp2_with fail
    refine (less_txt va va xs xs _ (ha.ext E) (ha.ext E) (by omega)).mono ?_
    rintro e w7 ⟨u7, rfl, hu7, e7⟩
    replace E := E.trans e7
    replace F := F.trans e7
    rw [m3] at hu7
    obtain ⟨A7, n7, c7, rfl, h70, _, _, _⟩ := hu7
    obtain rfl : n7 = 0 := h70.symm
    clear h70
    go_wp2_with fail
    refine (and_txt va _ xs [] _ (ha.ext E) (Own.nil w w7).txt (by simp; omega)).mono ?_
    rintro e w8 ⟨u8, rfl, hu8, e8⟩
    replace E := E.trans e8
    replace F := F.trans e8
    rw [m4] at hu8
    obtain ⟨A8, n8, c8, rfl, h80, _, _, _⟩ := hu8
    obtain rfl : n8 = 0 := h80.symm
    clear h80
    go_wp2_with fail
    refine (or_txt va _ xs [] _ (ha.ext E) (Own.nil w w8).txt (by simp; omega)).mono ?_
    rintro e w9 ⟨u9, rfl, hu9, e9⟩
    replace E := E.trans e9
    replace F := F.trans e9
    go_wp2_with fail
    refine (same_yes _ _ _ _ _ hu9 (hl.ext F) (m5 xs)).mono ?_
    rintro e w10 ⟨rfl, e10⟩
    replace E := E.trans e10
    replace F := F.trans e10
    go_wp2_with fail
    refine (less_txt va _ xs [] _ (ha.ext E) (Own.nil w w10).txt (by simp; omega)).mono ?_
    rintro e w11 ⟨u11, rfl, hu11, e11⟩
    replace E := E.trans e11
    replace F := F.trans e11
    go_wp2_with fail
    refine (same_yes _ _ _ _ _ hu11 (hl.ext F) (m6 xs)).mono ?_
    rintro e w12 ⟨rfl, e12⟩
    replace E := E.trans e12
    replace F := F.trans e12
    go_wp2_with fail
    refine (less_txt _ va [] xs _ (Own.nil w w12).txt (ha.ext E) (by simp; omega)).mono ?_
    rintro e w13 ⟨u13, rfl, hu13, e13⟩
    replace E := E.trans e13
    rw [m7] at hu13
    obtain ⟨A13, n13, c13, rfl, h130, _, _, _⟩ := hu13
    obtain rfl : n13 = 0 := h130.symm
    clear h130
    go_wp2_with fail
    refine (known_any _).mono ?_
    rintro e w14 ⟨rfl, e14⟩
    go_wp2_with fail
    go_ret
    exact ⟨rfl, E.trans e14⟩

end Go.Proofs.Ytafnahmdjmobcaa
