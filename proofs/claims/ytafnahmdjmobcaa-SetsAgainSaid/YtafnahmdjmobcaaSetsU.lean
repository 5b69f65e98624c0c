/- The walks of the statements of layer 8, four more: each answers true, and all old memory stays as it was. -/
import Derived.Test.YtafnahmdjmobcaaSetsT
namespace Go.Proofs.Ytafnahmdjmobcaa
open Go.RowKit Sets


set_option maxRecDepth 100000 in
set_option maxHeartbeats 2000000 in
theorem setsHave_any (va vb : Value) (xs ys : List ByteArray) (s : ByteArray) (w : World) (ha : Txt w va xs) (hb : Txt w vb ys) (hfa : Fit xs) (hfb : Fit ys) (hs : s.size ≤ 9223372036854775807) :
    Calls Try.prog 4 #[va, vb, .string s] w fun e w' => e = .returned (.bool true) ∧ Ext w w' := by
  cases h1 : lightB xs with
  | false =>
    go_enter Try.func4, Try.ntmps4
    go_wp2_with fail
    refine (light_no va xs h1 _ ha hfa).mono ?_
    rintro e w1 ⟨rfl, rfl⟩
    go_wp2_with fail
    refine (known_any _).mono ?_
    rintro e wk ⟨rfl, ek⟩
    go_wp2_with fail
    go_ret
    exact ⟨rfl, ek⟩
  | true =>
    cases h2 : lightB ys with
    | false =>
      go_enter Try.func4, Try.ntmps4
      go_wp2_with fail
      refine (light_yes va xs h1 _ ha hfa).mono ?_
      rintro e w1 ⟨rfl, rfl⟩
      go_wp2_with fail
      refine (light_no vb ys h2 _ hb hfb).mono ?_
      rintro e w2 ⟨rfl, rfl⟩
      go_wp2_with fail
      refine (known_any _).mono ?_
      rintro e wk ⟨rfl, ek⟩
      go_wp2_with fail
      go_ret
      exact ⟨rfl, ek⟩
    | true =>
      by_cases h3 : s.size ≤ 100
      · have l1 := light_len h1
        have l2 := light_len h2
        have hand := hasB_mk_and xs ys s
        have hor := hasB_mk_or xs ys s
        have hless := hasB_mk_less xs ys s
        cases hp : hasB xs s <;> cases hr : hasB ys s
        all_goals
          rw [hp, hr] at hand hor hless
          simp at hand hor hless
          have H1 := Lib.hid h1
          have H2 := Lib.hid h2
          have HP := Lib.hid hp
          have HR := Lib.hid hr
          have HA := Lib.hid hand
          have HO := Lib.hid hor
          have HL := Lib.hid hless
          clear h1 h2 hp hr hand hor hless
          go_enter Try.func4, Try.ntmps4
          go_wp2_with fail
          refine (light_yes va xs H1.out _ ha hfa).mono ?_
          rintro e w1 ⟨rfl, rfl⟩
          go_wp2_with fail
          refine (light_yes vb ys H2.out _ hb hfb).mono ?_
          rintro e w2 ⟨rfl, rfl⟩
          go_wp2_with fail
          have E := Ext.refl w
          refine (has_ext va xs s _ HP.out _ (ha.ext E)).mono ?_
          rintro e w3 ⟨rfl, e3⟩
          replace E := E.trans e3
          try replace F := F.trans e3
          try replace G := G.trans e3
          try replace K := K.trans e3
          go_wp2_with fail
          refine (has_ext vb ys s _ HR.out _ (hb.ext E)).mono ?_
          rintro e w4 ⟨rfl, e4⟩
          replace E := E.trans e4
          try replace F := F.trans e4
          try replace G := G.trans e4
          try replace K := K.trans e4
          go_wp2_with fail
          refine (and_txt va vb xs ys _ (ha.ext E) (hb.ext E) (by omega)).mono ?_
          rintro e w5 ⟨u5, rfl, hu5, e5⟩
          replace E := E.trans e5
          try replace F := F.trans e5
          try replace G := G.trans e5
          try replace K := K.trans e5
          go_wp2_with fail
          have F := Ext.refl w5
          refine (or_txt va vb xs ys _ (ha.ext E) (hb.ext E) (by omega)).mono ?_
          rintro e w6 ⟨u6, rfl, hu6, e6⟩
          replace E := E.trans e6
          try replace F := F.trans e6
          try replace G := G.trans e6
          try replace K := K.trans e6
          go_wp2_with fail
          have G := Ext.refl w6
          refine (less_txt va vb xs ys _ (ha.ext E) (hb.ext E) (by omega)).mono ?_
          rintro e w7 ⟨u7, rfl, hu7, e7⟩
          replace E := E.trans e7
          try replace F := F.trans e7
          try replace G := G.trans e7
          try replace K := K.trans e7
          go_wp2_with fail
          have K := Ext.refl w7
          refine (has_ext u5 _ s _ HA.out _ (hu5.ext F)).mono ?_
          rintro e w8 ⟨rfl, e8⟩
          replace E := E.trans e8
          try replace F := F.trans e8
          try replace G := G.trans e8
          try replace K := K.trans e8
          go_wp2_with fail
          refine (has_ext u6 _ s _ HO.out _ (hu6.ext G)).mono ?_
          rintro e w9 ⟨rfl, e9⟩
          replace E := E.trans e9
          try replace F := F.trans e9
          try replace G := G.trans e9
          try replace K := K.trans e9
          go_wp2_with fail
          refine (has_ext u7 _ s _ HL.out _ (hu7.ext K)).mono ?_
          rintro e w10 ⟨rfl, e10⟩
          replace E := E.trans e10
          try replace F := F.trans e10
          try replace G := G.trans e10
          try replace K := K.trans e10
          go_wp2_with fail
          refine (right_ext u5 _ _ (rise_mk _ _ _) _ (hu5.ext F)).mono ?_
          rintro e w11 ⟨rfl, e11⟩
          replace E := E.trans e11
          try replace F := F.trans e11
          try replace G := G.trans e11
          try replace K := K.trans e11
          go_wp2_with fail
          refine (right_ext u6 _ _ (rise_mk _ _ _) _ (hu6.ext G)).mono ?_
          rintro e w12 ⟨rfl, e12⟩
          replace E := E.trans e12
          try replace F := F.trans e12
          try replace G := G.trans e12
          try replace K := K.trans e12
          go_wp2_with fail
          refine (right_ext u7 _ _ (rise_mk _ _ _) _ (hu7.ext K)).mono ?_
          rintro e w13 ⟨rfl, e13⟩
          replace E := E.trans e13
          try replace F := F.trans e13
          try replace G := G.trans e13
          try replace K := K.trans e13
          go_wp2_with fail
          refine (add_txt va s xs _ (ha.ext E) (by omega)).mono ?_
          rintro e w14 ⟨u14, rfl, hu14, e14⟩
          replace E := E.trans e14
          try replace F := F.trans e14
          try replace G := G.trans e14
          try replace K := K.trans e14
          go_wp2_with fail
          refine (has_ext _ _ s _ (hasB_add xs s) _ hu14).mono ?_
          rintro e w15 ⟨rfl, e15⟩
          replace E := E.trans e15
          try replace F := F.trans e15
          try replace G := G.trans e15
          try replace K := K.trans e15
          go_wp2_with fail
          refine (del_txt va s xs _ (ha.ext E) (by omega)).mono ?_
          rintro e w16 ⟨u16, rfl, hu16, e16⟩
          replace E := E.trans e16
          try replace F := F.trans e16
          try replace G := G.trans e16
          try replace K := K.trans e16
          go_wp2_with fail
          refine (has_ext _ _ s _ (hasB_del xs s) _ hu16).mono ?_
          rintro e w17 ⟨rfl, e17⟩
          replace E := E.trans e17
          try replace F := F.trans e17
          try replace G := G.trans e17
          try replace K := K.trans e17
          go_wp2_with fail
          refine (known_any _).mono ?_
          rintro e wk ⟨rfl, ek⟩
          go_wp2_with fail
          go_ret
          exact ⟨rfl, E.trans ek⟩
      · go_enter Try.func4, Try.ntmps4
        go_wp2_with fail
        refine (light_yes va xs h1 _ ha hfa).mono ?_
        rintro e w1 ⟨rfl, rfl⟩
        go_wp2_with fail
        refine (light_yes vb ys h2 _ hb hfb).mono ?_
        rintro e w2 ⟨rfl, rfl⟩
        go_wp2_with fail
        refine (known_any _).mono ?_
        rintro e wk ⟨rfl, ek⟩
        go_wp2_with fail
        go_ret
        exact ⟨rfl, ek⟩

set_option maxRecDepth 100000 in
set_option maxHeartbeats 2000000 in
theorem setsOrders_any (va vb vc : Value) (xs ys zs : List ByteArray) (w : World) (ha : Txt w va xs) (hb : Txt w vb ys) (hc : Txt w vc zs) (hfa : Fit xs) (hfb : Fit ys) (hfc : Fit zs) :
    Calls Try.prog 5 #[va, vb, vc] w fun e w' => e = .returned (.bool true) ∧ Ext w w' := by
  cases h1 : lightB xs with
  | false =>
    go_enter Try.func5, Try.ntmps5
    go_wp2_with fail
    refine (light_no va xs h1 _ ha hfa).mono ?_
    rintro e w1 ⟨rfl, rfl⟩
    go_wp2_with fail
    refine (known_any _).mono ?_
    rintro e wk ⟨rfl, ek⟩
    go_wp2_with fail
    go_ret
    exact ⟨rfl, ek⟩
  | true =>
    cases h2 : lightB ys with
    | false =>
      go_enter Try.func5, Try.ntmps5
      go_wp2_with fail
      refine (light_yes va xs h1 _ ha hfa).mono ?_
      rintro e w1 ⟨rfl, rfl⟩
      go_wp2_with fail
      refine (light_no vb ys h2 _ hb hfb).mono ?_
      rintro e w2 ⟨rfl, rfl⟩
      go_wp2_with fail
      refine (known_any _).mono ?_
      rintro e wk ⟨rfl, ek⟩
      go_wp2_with fail
      go_ret
      exact ⟨rfl, ek⟩
    | true =>
      cases h3 : lightB zs with
      | false =>
        go_enter Try.func5, Try.ntmps5
        go_wp2_with fail
        refine (light_yes va xs h1 _ ha hfa).mono ?_
        rintro e w1 ⟨rfl, rfl⟩
        go_wp2_with fail
        refine (light_yes vb ys h2 _ hb hfb).mono ?_
        rintro e w2 ⟨rfl, rfl⟩
        go_wp2_with fail
        refine (light_no vc zs h3 _ hc hfc).mono ?_
        rintro e w3 ⟨rfl, rfl⟩
        go_wp2_with fail
        refine (known_any _).mono ?_
        rintro e wk ⟨rfl, ek⟩
        go_wp2_with fail
        go_ret
        exact ⟨rfl, ek⟩
      | true =>
        have l1 := light_len h1
        have l2 := light_len h2
        have l3 := light_len h3
        have b1 := length_mk_le orK ys zs
        have b2 := length_mk_le andK xs ys
        have b3 := length_mk_le andK xs zs
        have b4 := length_mk_le lessK xs ys
        have H1 := Lib.hid h1
        have H2 := Lib.hid h2
        have H3 := Lib.hid h3
        clear h1 h2 h3
        go_enter Try.func5, Try.ntmps5
        go_wp2_with fail
        refine (light_yes va xs H1.out _ ha hfa).mono ?_
        rintro e w1 ⟨rfl, rfl⟩
        go_wp2_with fail
        refine (light_yes vb ys H2.out _ hb hfb).mono ?_
        rintro e w2 ⟨rfl, rfl⟩
        go_wp2_with fail
        refine (light_yes vc zs H3.out _ hc hfc).mono ?_
        rintro e w3 ⟨rfl, rfl⟩
        go_wp2_with fail
        have E := Ext.refl w
        refine (or_txt vb vc ys zs _ (hb.ext E) (hc.ext E) (by omega)).mono ?_
        rintro e w4 ⟨u4, rfl, hu4, e4⟩
        replace E := E.trans e4
        try replace F := F.trans e4
        try replace G := G.trans e4
        try replace K := K.trans e4
        go_wp2_with fail
        refine (and_txt va u4 xs _ _ (ha.ext E) hu4 (by omega)).mono ?_
        rintro e w5 ⟨u5, rfl, hu5, e5⟩
        replace E := E.trans e5
        try replace F := F.trans e5
        try replace G := G.trans e5
        try replace K := K.trans e5
        go_wp2_with fail
        have F := Ext.refl w5
        refine (and_txt va vb xs ys _ (ha.ext E) (hb.ext E) (by omega)).mono ?_
        rintro e w6 ⟨u6, rfl, hu6, e6⟩
        replace E := E.trans e6
        try replace F := F.trans e6
        try replace G := G.trans e6
        try replace K := K.trans e6
        go_wp2_with fail
        refine (and_txt va vc xs zs _ (ha.ext E) (hc.ext E) (by omega)).mono ?_
        rintro e w7 ⟨u7, rfl, hu7, e7⟩
        replace E := E.trans e7
        try replace F := F.trans e7
        try replace G := G.trans e7
        try replace K := K.trans e7
        go_wp2_with fail
        refine (or_txt u6 u7 _ _ _ (hu6.ext e7) hu7 (by omega)).mono ?_
        rintro e w8 ⟨u8, rfl, hu8, e8⟩
        replace E := E.trans e8
        try replace F := F.trans e8
        try replace G := G.trans e8
        try replace K := K.trans e8
        go_wp2_with fail
        have G := Ext.refl w8
        refine (or_txt vb vc ys zs _ (hb.ext E) (hc.ext E) (by omega)).mono ?_
        rintro e w9 ⟨u9, rfl, hu9, e9⟩
        replace E := E.trans e9
        try replace F := F.trans e9
        try replace G := G.trans e9
        try replace K := K.trans e9
        go_wp2_with fail
        refine (less_txt va u9 xs _ _ (ha.ext E) hu9 (by omega)).mono ?_
        rintro e w10 ⟨u10, rfl, hu10, e10⟩
        replace E := E.trans e10
        try replace F := F.trans e10
        try replace G := G.trans e10
        try replace K := K.trans e10
        go_wp2_with fail
        have K := Ext.refl w10
        refine (less_txt va vb xs ys _ (ha.ext E) (hb.ext E) (by omega)).mono ?_
        rintro e w11 ⟨u11, rfl, hu11, e11⟩
        replace E := E.trans e11
        try replace F := F.trans e11
        try replace G := G.trans e11
        try replace K := K.trans e11
        go_wp2_with fail
        refine (less_txt u11 vc _ zs _ hu11 (hc.ext E) (by omega)).mono ?_
        rintro e w12 ⟨u12, rfl, hu12, e12⟩
        replace E := E.trans e12
        try replace F := F.trans e12
        try replace G := G.trans e12
        try replace K := K.trans e12
        go_wp2_with fail
        have L := Ext.refl w12
        refine (and_txt va vb xs ys _ (ha.ext E) (hb.ext E) (by omega)).mono ?_
        rintro e w13 ⟨u13, rfl, hu13, e13⟩
        replace E := E.trans e13
        try replace F := F.trans e13
        try replace G := G.trans e13
        try replace K := K.trans e13
        go_wp2_with fail
        refine (and_txt vb va ys xs _ (hb.ext E) (ha.ext E) (by omega)).mono ?_
        rintro e w14 ⟨u14, rfl, hu14, e14⟩
        replace E := E.trans e14
        try replace F := F.trans e14
        try replace G := G.trans e14
        try replace K := K.trans e14
        go_wp2_with fail
        replace L := (L.trans e13).trans e14
        refine (same_yes _ _ _ _ _ (hu13.ext e14) hu14 (o3 xs ys)).mono ?_
        rintro e w15 ⟨rfl, e15⟩
        replace E := E.trans e15
        try replace F := F.trans e15
        try replace G := G.trans e15
        try replace K := K.trans e15
        go_wp2_with fail
        refine (or_txt va vb xs ys _ (ha.ext E) (hb.ext E) (by omega)).mono ?_
        rintro e w16 ⟨u16, rfl, hu16, e16⟩
        replace E := E.trans e16
        try replace F := F.trans e16
        try replace G := G.trans e16
        try replace K := K.trans e16
        go_wp2_with fail
        refine (or_txt vb va ys xs _ (hb.ext E) (ha.ext E) (by omega)).mono ?_
        rintro e w17 ⟨u17, rfl, hu17, e17⟩
        replace E := E.trans e17
        try replace F := F.trans e17
        try replace G := G.trans e17
        try replace K := K.trans e17
        go_wp2_with fail
        replace L := ((L.trans e15).trans e16).trans e17
        refine (same_yes _ _ _ _ _ (hu16.ext e17) hu17 (o4 xs ys)).mono ?_
        rintro e w18 ⟨rfl, e18⟩
        replace E := E.trans e18
        try replace F := F.trans e18
        try replace G := G.trans e18
        try replace K := K.trans e18
        go_wp2_with fail
        refine (same_yes _ _ _ _ _ (hu5.ext F) (hu8.ext G) (o1 xs ys zs)).mono ?_
        rintro e w19 ⟨rfl, e19⟩
        replace E := E.trans e19
        try replace F := F.trans e19
        try replace G := G.trans e19
        try replace K := K.trans e19
        go_wp2_with fail
        replace L := (L.trans e18).trans e19
        refine (same_yes _ _ _ _ _ (hu10.ext K) (hu12.ext L) (o2 xs ys zs)).mono ?_
        rintro e w20 ⟨rfl, e20⟩
        replace E := E.trans e20
        try replace F := F.trans e20
        try replace G := G.trans e20
        try replace K := K.trans e20
        go_wp2_with fail
        refine (and_txt va vb xs ys _ (ha.ext E) (hb.ext E) (by omega)).mono ?_
        rintro e w21 ⟨u21, rfl, hu21, e21⟩
        replace E := E.trans e21
        try replace F := F.trans e21
        try replace G := G.trans e21
        try replace K := K.trans e21
        go_wp2_with fail
        refine (less_txt va vb xs ys _ (ha.ext E) (hb.ext E) (by omega)).mono ?_
        rintro e w22 ⟨u22, rfl, hu22, e22⟩
        replace E := E.trans e22
        try replace F := F.trans e22
        try replace G := G.trans e22
        try replace K := K.trans e22
        go_wp2_with fail
        refine (or_txt u21 u22 _ _ _ (hu21.ext e22) hu22 (by omega)).mono ?_
        rintro e w23 ⟨u23, rfl, hu23, e23⟩
        replace E := E.trans e23
        try replace F := F.trans e23
        try replace G := G.trans e23
        try replace K := K.trans e23
        go_wp2_with fail
        refine (of_txt va xs _ (ha.ext E) (by omega)).mono ?_
        rintro e w24 ⟨u24, rfl, hu24, e24⟩
        replace E := E.trans e24
        try replace F := F.trans e24
        try replace G := G.trans e24
        try replace K := K.trans e24
        go_wp2_with fail
        refine (same_yes _ _ _ _ _ (hu23.ext e24) hu24 (o5 xs ys)).mono ?_
        rintro e w25 ⟨rfl, e25⟩
        replace E := E.trans e25
        try replace F := F.trans e25
        try replace G := G.trans e25
        try replace K := K.trans e25
        go_wp2_with fail
        refine (and_txt va vb xs ys _ (ha.ext E) (hb.ext E) (by omega)).mono ?_
        rintro e w26 ⟨u26, rfl, hu26, e26⟩
        replace E := E.trans e26
        try replace F := F.trans e26
        try replace G := G.trans e26
        try replace K := K.trans e26
        go_wp2_with fail
        refine (less_txt va vb xs ys _ (ha.ext E) (hb.ext E) (by omega)).mono ?_
        rintro e w27 ⟨u27, rfl, hu27, e27⟩
        replace E := E.trans e27
        try replace F := F.trans e27
        try replace G := G.trans e27
        try replace K := K.trans e27
        go_wp2_with fail
        refine (and_txt u26 u27 _ _ _ (hu26.ext e27) hu27 (by omega)).mono ?_
        rintro e w28 ⟨u28, rfl, hu28, e28⟩
        replace E := E.trans e28
        rw [o6] at hu28
        obtain ⟨A28, n28, c28, rfl, h280, _, _, _⟩ := hu28
        obtain rfl : n28 = 0 := h280.symm
        clear h280
        go_wp2_with fail
        refine (known_any _).mono ?_
        rintro e wk ⟨rfl, ek⟩
        go_wp2_with fail
        go_ret
        exact ⟨rfl, E.trans ek⟩

set_option maxRecDepth 100000 in
set_option maxHeartbeats 2000000 in
theorem setsAgain_any (va : Value) (xs : List ByteArray) (s : ByteArray) (w : World) (ha : Txt w va xs) (hfa : Fit xs) (hs : s.size ≤ 9223372036854775807) :
    Calls Try.prog 6 #[va, .string s] w fun e w' => e = .returned (.bool true) ∧ Ext w w' := by
  cases h1 : lightB xs with
  | false =>
    go_enter Try.func6, Try.ntmps6
    go_wp2_with fail
    refine (light_no va xs h1 _ ha hfa).mono ?_
    rintro e w1 ⟨rfl, rfl⟩
    go_wp2_with fail
    refine (known_any _).mono ?_
    rintro e wk ⟨rfl, ek⟩
    go_wp2_with fail
    go_ret
    exact ⟨rfl, ek⟩
  | true =>
    by_cases h3 : s.size ≤ 100
    · have l1 := light_len h1
      have b1 := length_norm_le xs
      have b2 := length_mk_le orK (norm xs) [s]
      rw [List.length_singleton] at b2
      obtain ⟨p, hp⟩ : ∃ p, rise xs = p := ⟨_, rfl⟩
      have hp' : sameB (norm xs) xs = p := by rw [← a2, hp]
      have hpp : (p == p) = true := by simp
      have hz : hasB xs s = false → (mk orK (norm xs) [s]).length = (norm xs).length + 1 := fun h =>
        z3 _ _ (by rw [hasB_congr (mem_norm xs s)]; exact h) (sd_norm xs)
      have H1 := Lib.hid h1
      have HP := Lib.hid hp
      have HP' := Lib.hid hp'
      have HZ := Lib.hid hz
      clear h1 hp hp' hz
      have ka := ha
      obtain ⟨A, n, c, rfl, hn, hnc, hcm, hrd⟩ := ha
      have HN := Lib.hid hn
      have HRd := Lib.hid hrd
      have hn40 : n ≤ 40 := by omega
      clear hn hrd
      cases hr : hasB xs s
      all_goals
        have HR := Lib.hid hr
        clear hr
        go_enter Try.func6, Try.ntmps6
        go_wp2_with fail
        refine (light_yes _ xs H1.out _ ka hfa).mono ?_
        rintro e w1 ⟨rfl, rfl⟩
        go_wp2_with (first
          | (at_builtin
             refine app_strs _ rfl (.tmp 17) (.tmp 18) rfl w _ [] rfl (by exact own_empty w) A n c xs rfl HN.out (by exact HRd.out.alloc _) (by simp; omega) (by exact Ext.alloc _ _) ?_
             intro v2 w2 hown2 hext2))
        have hwas := hown2.txt
        rw [List.nil_append] at hwas
        have E := hext2
        have F := Ext.refl w2
        refine (of_txt _ xs _ (ka.ext E) (by omega)).mono ?_
        rintro e w3 ⟨l, rfl, hl, e3⟩
        replace E := E.trans e3
        replace F := F.trans e3
        have kl := hl
        obtain ⟨Al, nl, cl, rfl, hnl, hlc, hlm, _⟩ := hl
        have HNL := Lib.hid hnl
        have hnl40 : nl ≤ 40 := by omega
        clear hnl
        have G := Ext.refl w3
        go_wp2_with fail
        refine (add_txt _ s _ _ kl (by omega)).mono ?_
        rintro e w4 ⟨x, rfl, hx, e4⟩
        replace E := E.trans e4
        replace F := F.trans e4
        replace G := G.trans e4
        have kx := hx
        obtain ⟨Ax, nx, cx, rfl, hnx, hxc, hxm, _⟩ := hx
        have HNX := Lib.hid hnx
        have hnx40 : nx ≤ 41 := by omega
        clear hnx
        have K := Ext.refl w4
        go_wp2_with fail
        refine (right_ext _ _ _ (rise_norm xs) _ (kl.ext G)).mono ?_
        rintro e w5 ⟨rfl, e5⟩
        replace E := E.trans e5
        try replace F := F.trans e5
        try replace G := G.trans e5
        try replace K := K.trans e5
        go_wp2_with fail
        refine (of_txt _ _ _ (kl.ext G) (by rw [HNL.out]; omega)).mono ?_
        rintro e w6 ⟨u6, rfl, hu6, e6⟩
        replace E := E.trans e6
        try replace F := F.trans e6
        try replace G := G.trans e6
        try replace K := K.trans e6
        go_wp2_with fail
        refine (same_yes _ _ _ _ _ hu6 (kl.ext G) (a1 xs)).mono ?_
        rintro e w7 ⟨rfl, e7⟩
        replace E := E.trans e7
        try replace F := F.trans e7
        try replace G := G.trans e7
        try replace K := K.trans e7
        go_wp2_with fail
        refine (right_ext _ xs p HP.out _ (ka.ext E)).mono ?_
        rintro e w8 ⟨rfl, e8⟩
        replace E := E.trans e8
        try replace F := F.trans e8
        try replace G := G.trans e8
        try replace K := K.trans e8
        go_wp2_with fail
        refine (same_txt _ _ _ xs _ (kl.ext G) (ka.ext E)).mono ?_
        rintro e w9 ⟨rfl, q, rfl⟩
        rw [HP'.out]
        replace E := E.drewN_ q
        replace F := F.drewN_ q
        replace G := G.drewN_ q
        replace K := K.drewN_ q
        go_wp2_with fail
        refine (add_txt _ s _ _ (kx.ext K) (by rw [HNX.out]; omega)).mono ?_
        rintro e w10 ⟨u10, rfl, hu10, e10⟩
        replace E := E.trans e10
        try replace F := F.trans e10
        try replace G := G.trans e10
        try replace K := K.trans e10
        go_wp2_with fail
        refine (same_yes _ _ _ _ _ hu10 (kx.ext K) (a3 (norm xs) s)).mono ?_
        rintro e w11 ⟨rfl, e11⟩
        replace E := E.trans e11
        try replace F := F.trans e11
        try replace G := G.trans e11
        try replace K := K.trans e11
        go_wp2_with fail
        refine (del_txt _ s _ _ (kx.ext K) (by rw [HNX.out]; omega)).mono ?_
        rintro e w12 ⟨u12, rfl, hu12, e12⟩
        replace E := E.trans e12
        try replace F := F.trans e12
        try replace G := G.trans e12
        try replace K := K.trans e12
        go_wp2_with fail
        refine (del_txt _ s _ _ (kl.ext G) (by rw [HNL.out]; omega)).mono ?_
        rintro e w13 ⟨u13, rfl, hu13, e13⟩
        replace E := E.trans e13
        try replace F := F.trans e13
        try replace G := G.trans e13
        try replace K := K.trans e13
        go_wp2_with fail
        refine (same_yes _ _ _ _ _ (hu12.ext e13) hu13 (a4 (norm xs) s)).mono ?_
        rintro e w14 ⟨rfl, e14⟩
        replace E := E.trans e14
        try replace F := F.trans e14
        try replace G := G.trans e14
        try replace K := K.trans e14
        go_wp2_with fail
        refine (same_yes _ _ xs xs _ (ka.ext E) (hwas.ext F) rfl).mono ?_
        rintro e w15 ⟨rfl, e15⟩
        replace E := E.trans e15
        try replace F := F.trans e15
        try replace G := G.trans e15
        try replace K := K.trans e15
        go_wp2_with fail
        refine (has_ext _ xs s _ HR.out _ (ka.ext E)).mono ?_
        rintro e w16 ⟨rfl, e16⟩
        replace E := E.trans e16
        try (have hzz : ((nx : Int) == (nl : Int) + 1) = true := by
               have h := HZ.out HR.out
               rw [HNX.out, HNL.out] at h
               rw [beq_iff_eq]
               omega)
        go_wp2_with fail
        refine (known_any _).mono ?_
        rintro e wk ⟨rfl, ek⟩
        go_wp2_with fail
        go_ret
        exact ⟨rfl, E.trans ek⟩
    · go_enter Try.func6, Try.ntmps6
      go_wp2_with fail
      refine (light_yes va xs h1 _ ha hfa).mono ?_
      rintro e w1 ⟨rfl, rfl⟩
      go_wp2_with fail
      refine (known_any _).mono ?_
      rintro e wk ⟨rfl, ek⟩
      go_wp2_with fail
      go_ret
      exact ⟨rfl, ek⟩

set_option maxRecDepth 100000 in
set_option maxHeartbeats 2000000 in
theorem setsSizes_any (va vb : Value) (xs ys : List ByteArray) (w : World) (ha : Txt w va xs) (hb : Txt w vb ys) (hfa : Fit xs) (hfb : Fit ys) :
    Calls Try.prog 7 #[va, vb] w fun e w' => e = .returned (.bool true) ∧ Ext w w' := by
  cases h1 : lightB xs with
  | false =>
    go_enter Try.func7, Try.ntmps7
    go_wp2_with fail
    refine (light_no va xs h1 _ ha hfa).mono ?_
    rintro e w1 ⟨rfl, rfl⟩
    go_wp2_with fail
    refine (known_any _).mono ?_
    rintro e wk ⟨rfl, ek⟩
    go_wp2_with fail
    go_ret
    exact ⟨rfl, ek⟩
  | true =>
    cases h2 : lightB ys with
    | false =>
      go_enter Try.func7, Try.ntmps7
      go_wp2_with fail
      refine (light_yes va xs h1 _ ha hfa).mono ?_
      rintro e w1 ⟨rfl, rfl⟩
      go_wp2_with fail
      refine (light_no vb ys h2 _ hb hfb).mono ?_
      rintro e w2 ⟨rfl, rfl⟩
      go_wp2_with fail
      refine (known_any _).mono ?_
      rintro e wk ⟨rfl, ek⟩
      go_wp2_with fail
      go_ret
      exact ⟨rfl, ek⟩
    | true =>
      have l1 := light_len h1
      have l2 := light_len h2
      have b1 := length_norm_le xs
      have b2 := length_norm_le ys
      have b3 := length_mk_le andK xs ys
      have b4 := length_mk_le orK xs ys
      have b5 := length_mk_le lessK xs ys
      have b6 := length_mk_le lessK ys xs
      have H1 := Lib.hid h1
      have H2 := Lib.hid h2
      have Z1 := Lib.hid (z1 xs ys)
      have Z2 := Lib.hid (z2 xs ys)
      have Z3 := Lib.hid (z1 ys xs)
      have O3 := Lib.hid (o3 ys xs)
      clear h1 h2
      go_enter Try.func7, Try.ntmps7
      go_wp2_with fail
      refine (light_yes va xs H1.out _ ha hfa).mono ?_
      rintro e w1 ⟨rfl, rfl⟩
      go_wp2_with fail
      refine (light_yes vb ys H2.out _ hb hfb).mono ?_
      rintro e w2 ⟨rfl, rfl⟩
      go_wp2_with fail
      have E := Ext.refl w
      refine (of_txt va xs _ (ha.ext E) (by omega)).mono ?_
      rintro e w3 ⟨u3, rfl, hu3, e3⟩
      replace E := E.trans e3
      obtain ⟨A3, n3, c3, rfl, hn3, hc3, hm3, _⟩ := hu3
      have HN3 := Lib.hid hn3
      have hk3 : n3 ≤ 40 := by omega
      clear hn3
      go_wp2_with fail
      refine (of_txt vb ys _ (hb.ext E) (by omega)).mono ?_
      rintro e w4 ⟨u4, rfl, hu4, e4⟩
      replace E := E.trans e4
      obtain ⟨A4, n4, c4, rfl, hn4, hc4, hm4, _⟩ := hu4
      have HN4 := Lib.hid hn4
      have hk4 : n4 ≤ 40 := by omega
      clear hn4
      go_wp2_with fail
      refine (and_txt va vb xs ys _ (ha.ext E) (hb.ext E) (by omega)).mono ?_
      rintro e w5 ⟨u5, rfl, hu5, e5⟩
      replace E := E.trans e5
      obtain ⟨A5, n5, c5, rfl, hn5, hc5, hm5, _⟩ := hu5
      have HN5 := Lib.hid hn5
      have hk5 : n5 ≤ 80 := by omega
      clear hn5
      have i5 : n5 ≤ n3 := by have := Z1.out; rw [HN5.out, HN3.out] at this; omega
      have i5' : n5 ≤ n4 := by have := Z3.out; rw [O3.out, HN5.out, HN4.out] at this; omega
      go_wp2_with fail
      refine (or_txt va vb xs ys _ (ha.ext E) (hb.ext E) (by omega)).mono ?_
      rintro e w6 ⟨u6, rfl, hu6, e6⟩
      replace E := E.trans e6
      obtain ⟨A6, n6, c6, rfl, hn6, hc6, hm6, _⟩ := hu6
      have HN6 := Lib.hid hn6
      have hk6 : n6 ≤ 80 := by omega
      clear hn6
      have s1 : ((n3 : Int) + (n4 : Int) == (n5 : Int) + (n6 : Int)) = true := by
        have := Z2.out
        rw [HN3.out, HN4.out, HN5.out, HN6.out] at this
        rw [beq_iff_eq]; omega
      go_wp2_with fail
      refine (less_txt va vb xs ys _ (ha.ext E) (hb.ext E) (by omega)).mono ?_
      rintro e w7 ⟨u7, rfl, hu7, e7⟩
      replace E := E.trans e7
      obtain ⟨A7, n7, c7, rfl, hn7, hc7, hm7, _⟩ := hu7
      have HN7 := Lib.hid hn7
      have hk7 : n7 ≤ 80 := by omega
      clear hn7
      have s2 : ((n7 : Int) == (n3 : Int) - (n5 : Int)) = true := by
        have := Z1.out
        rw [HN3.out, HN5.out, HN7.out] at this
        rw [beq_iff_eq]; omega
      go_wp2_with fail
      refine (less_txt vb va ys xs _ (hb.ext E) (ha.ext E) (by omega)).mono ?_
      rintro e w8 ⟨u8, rfl, hu8, e8⟩
      replace E := E.trans e8
      obtain ⟨A8, n8, c8, rfl, hn8, hc8, hm8, _⟩ := hu8
      have HN8 := Lib.hid hn8
      have hk8 : n8 ≤ 80 := by omega
      clear hn8
      have s3 : ((n8 : Int) == (n4 : Int) - (n5 : Int)) = true := by
        have := Z3.out
        rw [O3.out, HN4.out, HN5.out, HN8.out] at this
        rw [beq_iff_eq]; omega
      go_wp2_with fail
      refine (known_any _).mono ?_
      rintro e wk ⟨rfl, ek⟩
      go_wp2_with fail
      go_ret
      exact ⟨rfl, E.trans ek⟩

end Go.Proofs.Ytafnahmdjmobcaa
