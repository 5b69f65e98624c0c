/- The document's bits of samples, walked. -/
import Derived.Test.YtpdebandcmhbcaaDelI
namespace Go.Proofs.Ytpdebandcmhbcaa
open Go.RowKit Bit
set_option linter.unusedVariables false

/-- append of bools, as one step of a region that draws its order. -/
theorem step_bools (w : World) {ops : Array Oper} {o : Oper} {a : Act} {K : Act → World → Prop} {Q : Exit → Act → World → Prop} {E : Prop} (hgd : o.guard = none) (s x : Operand)
    (ho : o.op = .call { callee := .builtin .append, args := #[s, x], argTypes := #[31, 31] })
    (B : Nat) (v : Value) (out : List Bool) (hs : a.eval s = v) (hown : OwnL B w v out) (hB : B ≤ w.heap.size)
    (A : Option Addr) (m c : Nat) (news : List Bool) (hx : a.eval x = .slice A m c) (hl : news.length = m) (hr : Rd w A (news.map .bool))
    (hb : out.length + news.length ≤ 17179869184)
    (h : ∀ v' w', OwnL B w' v' (out ++ news) → Chg B [4] w w' → K (a.put o.dst v') w') :
    if Region.wanted o (yielded ops a.tmps) = true then Oper.wp Try.prog o a w K Q else E := by
  obtain ⟨i0, hi0, hz0, hz1, hz2⟩ := info_parts Try.boolInfo
  subst hl
  refine step_append_rd w hgd s x 31 ho B 4 i0 (.bool false) 1 1 Try.underlying31 hi0 hz0 hz1 hz2 rfl (by decide) v out.length _ hs hown A news.length c (news.map .bool) hx (by simp) hr
    (by intro u hu; obtain ⟨y, _, rfl⟩ := List.mem_map.1 hu; rfl) (by simp only [maxLen]; omega) (by omega) hB ?_
  intro v' w' happ
  refine h v' w' ?_ (happ.chg hown (by simp) (Nat.le_refl _))
  have := happ.own
  unfold OwnL
  rw [List.map_append, List.length_append]
  exact this

set_option maxHeartbeats 8000000 in
theorem rEnc_any (v : Value) (l : List Smp) (w : World) (h : Row smpC w v l) (hok : ∀ x ∈ l, SmpOk x) (hlen : l.length ≤ 100000) :
    Calls Try.prog 14 #[v] w fun e w' => ∃ u, e = .returned u ∧ Boo w' u (encB l) ∧ Ext w w' := by
  obtain ⟨A, n, c, rfl, hn, hnc, hc, hr⟩ := h
  have hc' : c ≤ 9223372036854775807 := by simpa [maxLen] using hc
  have HR := Lib.hid hr
  have HN := Lib.hid hn
  have HOK := Lib.hid hok
  clear hr hn hok hc
  have hn1 : n ≤ 100000 := by rw [← HN.out]; exact hlen
  go_enter Try.func14, Try.ntmps14
  go_wp2_with fail
  go_loopw [3, 4, 5] (fun o s i wr => ∃ (k : Nat) (step : Int) (W : List Bool), k ≤ n ∧ i = .int .i64 (k : Int) ∧ s = .int .i64 step ∧ EncAt l k step W ∧ OwnL w.heap.size wr o W ∧ Ext w wr) (fun _ _ i _ => n - (intOf i).toNat)
  case atStart => exact ⟨0, 0, [], by omega, rfl, rfl, EncAt.start l, OwnL.nil _ _, Ext.refl _⟩
  case round =>
    obtain ⟨k, step, W, hk, rfl, rfl, hat, hw, hx⟩ := hrel
    have HAT := Lib.hid hat
    have HW := Lib.hid hw
    have HX := Lib.hid hx
    have HL := Lib.hid hat.len
    clear hat hw hx
    by_cases hkn : k < n
    · obtain ⟨ad, rfl⟩ : ∃ ad, A = some ad := row_some HR.out smpC_len (by decide) (by have := HN.out; omega)
      obtain ⟨x, hq⟩ : ∃ q, l[k]? = some q := ⟨_, List.getElem?_eq_getElem (by have := HN.out; omega)⟩
      have HC := Lib.hid (fun wz (hw : Ext w wz) => smp_cells (HR.out.ext hw) hq)
      have HSO := Lib.hid (HOK.out x (List.mem_of_getElem? hq))
      have HQ := Lib.hid hq
      clear hq
      obtain ⟨t, v⟩ := x
      have hkI : (k : Int) < (n : Int) := by omega
      have hkJ : (0 : Int) ≤ (k : Int) := by omega
      rcases Nat.eq_zero_or_pos k with hk0 | hk0
      · have hz : ((k : Int) == 0) = true := by rw [hk0]; rfl
        have hat0 := HAT.out
        have hq0 := HQ.out
        rw [hk0] at hat0 hq0
        obtain ⟨e1, e2, hat2⟩ := hat0.first hq0
        have HC0 := Lib.hid (fun wz (hw : Ext w wz) => smp_cells (HR.out.ext hw) hq0)
        have HK0 := Lib.hid hk0
        have HAT2 := Lib.hid hat2
        clear hat2 HAT hat0 hq0 hk0 HC
        subst e1 e2
        have hu1 := u64N_wrap t
        have hu2 := u64N_wrap v
        have hnI : (0 : Int) < (n : Int) := by omega
        have HD0 := Lib.hid (fun wz (hw : Ext w wz) => (by have q := HC0.out wz hw; rw [Nat.zero_mul] at q; exact q : wz.cell? ad = some (.int .i64 t) ∧ wz.cell? ⟨ad.block, ad.off + 1, none⟩ = some (.int .i64 v)))
        clear HC0
        obtain ⟨c0, c1⟩ := HD0.out wr HX.out
        go_wp2_with fail
        refine (rBits_any (u64N t) 64 _ (u64N_lt t) (by decide)).mono ?_
        rintro e v1 ⟨x, rfl, hox, hx1⟩
        obtain ⟨A1, n1, c1', rfl, hnn, hnc1, hcm1, hr1⟩ := hox.boo
        have HO1 := Lib.hid (HW.out.ext hx1)
        have HX1 := Lib.hid (HX.out.trans hx1)
        have HR1 := Lib.hid hr1
        have HN1 := Lib.hid hnn
        clear hr1 hnn hox hx1 hcm1 c0 c1
        go_wp2_with (first
          | (at_builtin
             refine app_bools _ rfl (.tmp 15) (.tmp 21) rfl w.heap.size _ [] rfl HO1.out HX1.out.size A1 n1 c1' (bitsOf (u64N t) 64) rfl HN1.out HR1.out (by rw [length_bitsOf]; decide) ?_
             intro v2 w2 hown hchg
             have HX2 := Lib.hid (ext_own HX1.out hchg)
             have HO2 := Lib.hid hown
             have c5 := (HD0.out w2 HX2.out).2
             clear hown hchg))
        refine (rBits_any (u64N v) 64 _ (u64N_lt v) (by decide)).mono ?_
        rintro e v3 ⟨x, rfl, hox, hx3⟩
        obtain ⟨A3, n3, c3', rfl, hnn, hnc3, hcm3, hr3⟩ := hox.boo
        have HO3 := Lib.hid (HO2.out.ext hx3)
        have HX3 := Lib.hid (HX2.out.trans hx3)
        have HR3 := Lib.hid hr3
        have HN3 := Lib.hid hnn
        clear hr3 hnn hox hx3 hcm3 c5
        go_wp2_with (first
          | (at_builtin
             refine app_bools _ rfl (.tmp 23) (.tmp 29) rfl w.heap.size _ ([] ++ bitsOf (u64N t) 64) rfl HO3.out HX3.out.size A3 n3 c3' (bitsOf (u64N v) 64) rfl HN3.out HR3.out (by rw [List.length_append, length_bitsOf, length_bitsOf]; decide) ?_
             intro v4 w4 hown hchg
             have HX4 := Lib.hid (ext_own HX3.out hchg)
             have HO4 := Lib.hid hown
             clear hown hchg))
        go_roundw
        case rel => exact ⟨k + 1, 0, _, by omega, by go_num, rfl, by rw [HK0.out]; exact HAT2.out, HO4.out, HX4.out⟩
        case measure => simp [intOf]; omega
      · have hz : ((k : Int) == 0) = false := by simp; omega
        obtain ⟨i2, he2⟩ : ∃ i2, k - 1 = i2 := ⟨_, rfl⟩
        obtain ⟨⟨lt, lv⟩, hq2⟩ : ∃ q, l[i2]? = some q := ⟨_, List.getElem?_eq_getElem (by have := HN.out; omega)⟩
        have hi1 : (k : Int) - 1 = (i2 : Int) := by omega
        have hi3 : (0 : Int) ≤ (i2 : Int) := by omega
        have hi4 : (i2 : Int) < (n : Int) := by omega
        have hi6 : IntKind.i64.wrap (i2 : Int) = (i2 : Int) := by simp only [IntKind.wrap, IntKind.bits, IntKind.signed]; simp; omega
        have hi7 : IntKind.i64.wrap (v - lv) = wrap64 (v - lv) := i64_wrap64 _
        have hi8 : IntKind.i64.wrap (t - lt) = wrap64 (t - lt) := i64_wrap64 _
        have hi9 : IntKind.i64.wrap (wrap64 (t - lt) - step) = wrap64 (wrap64 (t - lt) - step) := i64_wrap64 _
        have hi5 : IntKind.i64.wrap ((k : Int) - 1) = (i2 : Int) := by rw [hi1]; simp only [IntKind.wrap, IntKind.bits, IntKind.signed]; simp; omega
        have HAT2 := Lib.hid (HAT.out.next (by omega) HQ.out (by rw [he2]; exact hq2))
        have HC2 := Lib.hid (fun wz (hw : Ext w wz) => smp_cells (HR.out.ext hw) hq2)
        obtain ⟨c0, c1⟩ := HC.out wr HX.out
        obtain ⟨d0, d1⟩ := HC2.out wr HX.out
        clear he2 hq2 hk0 HAT
        dsimp only at c0 c1 d0 d1
        have hZ1 := size_le (zigN (wrap64 (wrap64 (t - lt) - step)))
        go_wp2_with fail
        go_quiet (fail)
        go_wp2_with fail
        clear c0 d0 c1 d1
        refine (rZig_any (wrap64 (wrap64 (t - lt) - step)) _ (wrap64_lo _) (wrap64_hi _)).mono ?_
        rintro e _ ⟨rfl, rfl⟩
        go_wp2_with fail
        refine (rCode_any (zigN (wrap64 (wrap64 (t - lt) - step))) _ (zigW_lt _)).mono ?_
        rintro e v1 ⟨x, rfl, hox, hx1⟩
        obtain ⟨A1, n1, c1', rfl, hnn, hnc1, hcm1, hr1⟩ := hox
        have HX1 := Lib.hid (HX.out.trans ((Ext.drewN _ wr).trans hx1))
        have HO1 := Lib.hid (HW.out.ext ((Ext.drewN _ wr).trans hx1))
        have HR1 := Lib.hid hr1
        have HN1 := Lib.hid hnn
        clear hr1 hnn hx1 hcm1
        go_wp2_with (first
          | (at_builtin
             refine app_bools _ rfl (.tmp 43) (.tmp 48) rfl w.heap.size _ W rfl HO1.out HX1.out.size A1 n1 c1' (codeB (zigN (wrap64 (wrap64 (t - lt) - step)))) rfl HN1.out HR1.out (by rw [codeB_len]; have := HL.out; omega) ?_
             intro v2 w2 hown hchg
             have HX2 := Lib.hid (ext_own HX1.out hchg)
             have HO2 := Lib.hid hown
             clear hown hchg))
        obtain ⟨c0, c1⟩ := HC.out w2 HX2.out
        obtain ⟨d0, d1⟩ := HC2.out w2 HX2.out
        try dsimp only at c1 d1
        clear c0 d0
        go_region_held3 (fun w' => w'.cell? ⟨(ad.add (k * 2)).block, (ad.add (k * 2)).off + 1, none⟩ = some (.int .i64 v) ∧ w'.cell? ⟨(ad.add (i2 * 2)).block, (ad.add (i2 * 2)).off + 1, none⟩ = some (.int .i64 lv)) (first | assumption | exact ⟨c1, d1⟩ | exact ⟨(HC.out _ HX3.out).2, (HC2.out _ HX3.out).2⟩ | exact ⟨(HC.out _ HX4.out).2, (HC2.out _ HX4.out).2⟩) (first
          | (go_at_call 36; refine (rZig_any (wrap64 (v - lv)) _ (wrap64_lo _) (wrap64_hi _)).mono ?_; rintro e _ ⟨rfl, rfl⟩)
          | (go_at_call 12; refine (rCode_any (zigN (wrap64 (v - lv))) _ (zigW_lt _)).mono ?_
             rintro e v3 ⟨x, rfl, hox, hx3⟩
             obtain ⟨A3, n3, c3', rfl, hnn, hnc3, hcm3, hr3⟩ := hox
             have HX3 := Lib.hid (HX2.out.trans ((Ext.drewN _ w2).trans hx3))
             have HO3 := Lib.hid (HO2.out.ext ((Ext.drewN _ w2).trans hx3))
             have HR3 := Lib.hid hr3
             have HN3 := Lib.hid hnn
             clear hr3 hnn hx3 hcm3)
          | (refine step_bools _ rfl (.tmp 50) (.tmp 64) rfl w.heap.size _ _ rfl HO3.out HX3.out.size A3 n3 c3' (codeB (zigN (wrap64 (v - lv)))) rfl HN3.out HR3.out (by have := size_le (zigN (wrap64 (v - lv))); rw [List.length_append, codeB_len, codeB_len]; have := HL.out; omega) ?_
             intro v4 w4 hown hchg
             have HX4 := Lib.hid (ext_own HX3.out hchg)
             have HO4 := Lib.hid hown
             clear hown hchg))
        go_wp2_with fail
        go_roundw
        case rel => exact ⟨k + 1, _, _, by omega, by go_num, rfl, HAT2.out, HO4.out, HX4.out⟩
        case measure => simp [intOf]; omega
    · have he : k = n := by omega
      have HE : Hid (W = encB l) := Lib.hid (by
        have := HAT.out
        rw [he, ← HN.out] at this
        exact this.done)
      subst he
      go_wp2_with fail
      go_ret
      exact ⟨_, rfl, by rw [← HE.out]; exact HW.out.boo, HX.out⟩
end Go.Proofs.Ytpdebandcmhbcaa
