/- The document's index: Set. -/
import Derived.Test.YtccjbmmhdbainaaIxrE
namespace Go.Proofs.Ytccjbmmhdbainaa
open Go.RowKit Sets
set_option linter.unusedVariables false
set_option maxRecDepth 100000
set_option linter.unusedSectionVars false
set_option linter.unusedSimpArgs false

theorem own_off {w : World} {B e size n : Nat} {A : Option Addr} {m c : Nat} {xs : List Value} (h : w.ownsRow B e size (.slice A m c) n xs) {r : Nat} (hr : r < B) : ∀ ad, A = some ad → ad.block ≠ r := by
  intro ad e
  subst e
  rcases h.2 with ⟨h, _⟩ | ⟨g, cap, cur, h, hg, _⟩
  · simp at h
  · simp at h
    obtain ⟨rfl, _⟩ := h
    show g ≠ r
    omega
theorem okM_key {key : ByteArray} {l : List Lab} (h : keyI key = false) : okM key l = false := by unfold okM; rw [h]; rfl
theorem okM_right {key : ByteArray} {l : List Lab} (h : rightI l = false) : okM key l = false := by unfold okM; rw [h, Bool.and_false]
theorem okM_both {key : ByteArray} {l : List Lab} (h : keyI key = true) (h2 : rightI l = true) : okM key l = true := by unfold okM; rw [h, h2]; rfl
theorem rerrM_no {key : ByteArray} {l : List Lab} (h : okM key l = false) : errM key l = 1 := by unfold errM; rw [h]; rfl
theorem rerrM_yes {key : ByteArray} {l : List Lab} (h : okM key l = true) : errM key l = 0 := by unfold errM; rw [if_pos h]
theorem rputM_no {M : Mod} {key : ByteArray} {l : List Lab} (h : okM key l = false) : putM M key l = M := by unfold putM; rw [h]; rfl
theorem rputM_yes {M : Mod} {key : ByteArray} {l : List Lab} (h : okM key l = true) : putM M key l = setM M key l := by unfold putM; rw [if_pos h]
set_option maxRecDepth 100000 in
set_option maxHeartbeats 8000000 in
theorem rSet_any (r : Nat) (M : Mod) (key : ByteArray) (v : Value) (l : List Lab) (w : World) (h : RefX w r M) (hM : GoodM M) (hl : M.length ≤ 100000) (hk : okS key)
    (hv : ∀ w', Kp [r] w w' → Row labC w' v l) (hok : ∀ y ∈ l, okL y) :
    Calls Try.prog 41 #[.pointer (some ⟨r, 0, none⟩), .string key, v] w fun e w' => e = .returned (.int .i64 (errM key l)) ∧ RDx w w' r (putM M key l) := by
  obtain ⟨i1, hi1, hz3, hz4, hz5⟩ := info_parts Try.entInfo
  have HH := Lib.hid h
  have HV := Lib.hid hv
  have HOK := Lib.hid hok
  have HK := Lib.hid hk
  have HM := Lib.hid hM
  have hrw := h.lt
  clear h hv hok hk hM
  go_enter Try.func41, Try.ntmps41
  go_wp2_with fail
  refine (rkey_any key w HK.out).mono ?_
  rintro e _ ⟨rfl, rfl⟩
  cases hkk : keyI key with
  | false =>
    have HF := Lib.hid (okM_key (l := l) hkk)
    clear hkk
    go_wp2_with fail
    go_ret
    exact ⟨by rw [rerrM_no HF.out]; rfl, by rw [rputM_no HF.out]; exact RDx.of_ext HH.out (Ext.refl _)⟩
  | true =>
    go_wp2_with fail
    refine (lright_any v l _ (HV.out _ (Kp.refl _ _)) HOK.out).mono ?_
    rintro e w1 ⟨rfl, hx⟩
    have HX1 := Lib.hid hx
    clear hx
    cases hrr : rightI l with
    | false =>
      have HF := Lib.hid (okM_right (key := key) hrr)
      clear hkk hrr
      go_wp2_with fail
      go_ret
      exact ⟨by rw [rerrM_no HF.out]; rfl, by rw [rputM_no HF.out]; exact RDx.of_ext HH.out HX1.out⟩
    | true =>
      have HT := Lib.hid (okM_both hkk hrr)
      have hl8 := (right_ok hrr).2
      clear hkk hrr
      go_wp2_with fail
      refine (rDrop_any r M key w1 (HH.out.ext HX1.out) hl).mono ?_
      rintro e w2 ⟨rfl, hd⟩
      have HKP : Hid (Kp [r] w w2) := Lib.hid ((Kp.of_ext HX1.out).and hd.kp)
      have hat := hd.at_
      have HS : Hid (setM M key l = insBy (fun p => p.1) (dropM M key) (key, srtL l)) := Lib.hid rfl
      have hl1 : (dropM M key).length ≤ 100000 := Nat.le_trans (len_drop M key) hl
      have HGD := Lib.hid (HM.out.drop key)
      generalize dropM M key = M1 at hat HS hl1 HGD
      have hrw2 := hat.lt
      obtain ⟨A, n, c, es, hn, hnc, hc', hes, hents, hfld, hrd, hoff⟩ := hat.parts
      have HN := Lib.hid hn
      have HR := Lib.hid hrd
      have HE := Lib.hid hents
      have HES := Lib.hid hes
      have HFD := Lib.hid hfld
      have hn1 : n ≤ 100000 := by rw [← hn]; exact hl1
      have HX1 := HX1
      clear hd hat hn hrd hents hes hoff hfld hl1
      go_upto_block 0 with fail
      go_cut [7, 8] from 20 to 50 (fun s7 s8 wx => ∃ k : Nat, s8 = .int .i64 (k : Int) ∧ (M1.takeWhile fun p => ltB p.1 key).length = k ∧ wx.ownsRow w2.heap.size 83 2 s7 (es.take k).length ((es.take k).flatMap entC) ∧ Ext w2 wx)
      case first =>
        go_wp2_with fail
        go_loopw [7, 8] (fun o j wr => ∃ k : Nat, k ≤ (M1.takeWhile fun p => ltB p.1 key).length ∧ j = .int .i64 (k : Int) ∧ wr.ownsRow w2.heap.size 83 2 o (es.take k).length ((es.take k).flatMap entC) ∧ Ext w2 wr) (fun _ j _ => n - (intOf j).toNat)
        case atStart => exact ⟨0, by omega, rfl, World.ownsRow_nil _ _ _ _, Ext.refl _⟩
        case round =>
          obtain ⟨k, hk, rfl, hown, hext⟩ := hrel
          have hkl := Nat.le_trans hk (while_len M1 _)
          rw [HN.out] at hkl
          have HK2 := Lib.hid hk
          have HO := Lib.hid hown
          have HE2 := Lib.hid hext
          clear hk hown hext
          by_cases hki : k < n
          · have hkI : (k : Int) < (n : Int) := by omega
            have hkJ : (0 : Int) ≤ (k : Int) := by omega
            obtain ⟨q, hq⟩ : ∃ z, M1[k]? = some z := ⟨_, List.getElem?_eq_getElem (by have := HN.out; omega)⟩
            obtain ⟨e, he, hok⟩ := HE.out.at_ hq
            obtain ⟨ad, rfl⟩ : ∃ ad, A = some ad := row_some HR.out entC_len (by decide) (by have := HES.out; omega)
            have HZ := Lib.hid (fun wz (hw : Ext w2 wz) => (⟨heap_cell (HFD.out wz hw) 0, ent_cells (HR.out.ext hw) he⟩ : _ ∧ _))
            have HOZ := Lib.hid (key_ok (HGD.out.ent q (List.mem_of_getElem? hq)).1)
            have HWN := Lib.hid (while_next (f := fun p : Ent => p.1) HK2.out hq)
            have HST : Hid (es.take k ++ [e] = es.take (k + 1)) := Lib.hid (take_snoc he).symm
            have HLK : Hid ((es.take k).length = k) := Lib.hid (by rw [List.length_take, HES.out]; omega)
            obtain ⟨ek, ea, en, ec⟩ := e
            obtain rfl : ek = q.1 := hok.key
            obtain ⟨q1, q2⟩ := q
            dsimp only at HZ HOZ HWN HST
            clear hq he hok
            obtain ⟨d0, e0, e1⟩ := HZ.out wr HE2.out
            go_wp2_with fail
            refine (lbelow_ext q1 key _ HOZ.out HK.out).mono ?_
            rintro e w7 ⟨rfl, hx7⟩
            have HE7 := Lib.hid (HE2.out.trans hx7)
            have HO7 := Lib.hid (own_later HO.out hx7)
            clear hx7 d0 e0 e1
            obtain ⟨d0, e0, e1⟩ := HZ.out w7 HE7.out
            cases haa : ltB q1 key with
            | true =>
              have HKK := Lib.hid (HWN.out.1 haa)
              clear haa
              have hx6 : Ext w7 (w7.alloc (.cells #[.string q1, .slice ea en ec] 83)) := Ext.alloc _ _
              have hww : w2.heap.size ≤ w7.heap.size := HE7.out.size
              go_wp2_with (first
                | (at_builtin
                   refine app_row entC_len entC_one _ rfl (.tmp 39) (.tmp 47) 76 83 rfl i1 (.agg #[.string ByteArray.empty, .slice none 0 0]) 40 Try.underlying76 hi1 hz3 hz4 hz5 rfl (by decide) (by decide) w2.heap.size _ (es.take k) rfl (by exact own_later HO7.out hx6) (Nat.le_trans hww hx6.size) (some ⟨w7.heap.size, 0, none⟩) 1 1 [⟨q1, ea, en, ec⟩] rfl rfl (by exact Rd.new w7 #[_, _] 83) (by have := HLK.out; simp only [List.length_singleton]; omega) ?_
                   intro v8 w8 hown8 hchg8
                   have HO8 := Lib.hid hown8
                   have HE8 : Hid (Ext w2 w8) := Lib.hid (((Chg.of_ext (HE7.out.trans hx6)).trans hchg8).to_ext (Nat.le_refl _))
                   clear hchg8 hown8))
              go_roundw
              case rel => exact ⟨k + 1, HKK.out, by go_num, by rw [← HST.out]; exact HO8.out, HE8.out⟩
              case measure => simp [intOf]; omega
            | false =>
              have HKK := Lib.hid (HWN.out.2 haa)
              clear haa
              go_wp2_with fail
              go_meet
              exact ⟨k, rfl, HKK.out, HO7.out, HE7.out⟩
          · obtain rfl : k = n := by omega
            have d0 := heap_cell (HFD.out wr HE2.out) 0
            have HKK : Hid ((M1.takeWhile fun p => ltB p.1 key).length = k) := Lib.hid (by have := while_len M1 (fun p : Ent => ltB p.1 key); have := HK2.out; have := HN.out; omega)
            go_wp2_with fail
            go_meet
            exact ⟨k, rfl, HKK.out, HO.out, HE2.out⟩
      case rest =>
        obtain ⟨k, rfl, hkw, hown, hx⟩ := hcut
        have hkl := while_len M1 (fun p : Ent => ltB p.1 key)
        rw [hkw, HN.out] at hkl
        have HI : Hid (setM M key l = (M1.take k ++ [(key, srtL l)]) ++ M1.drop k) := Lib.hid (by rw [HS.out]; exact insBy_parts hkw)
        have HO := Lib.hid hown
        have HX := Lib.hid hx
        have HLK : Hid ((es.take k).length = k) := Lib.hid (by rw [List.length_take, HES.out]; omega)
        have HLD : Hid ((es.drop k).length = n - k) := Lib.hid (by rw [List.length_drop, HES.out])
        obtain ⟨A2, hA2, hsl2⟩ := cut_from (P := Try.prog) 76 83 i1 2 Try.underlying76 hi1 hz4 HR.out (by rw [flat_length entC_len, HES.out]) hnc k (k : Int) rfl hkl
        rw [flat_drop entC_len _ _ (by rw [HES.out]; exact hkl)] at hA2
        have HR2 := Lib.hid hA2
        clear hkw hown hx hA2
        go_wp2_with fail
        refine (rsorted_any v l wc (HV.out _ (HKP.out.and (Kp.of_ext HX.out))) HOK.out (by omega)).mono ?_
        rintro e w5 ⟨u, rfl, hown5, hx⟩
        obtain ⟨A5, c5, rfl, _, _, _⟩ := own_slice hown5
        have HOF := Lib.hid (own_off hown5 (Nat.lt_of_lt_of_le hrw2 HX.out.size))
        have HRW5 := Lib.hid hown5
        obtain ⟨m5, hm5⟩ : ∃ m5, (srtL l).length = m5 := ⟨_, rfl⟩
        rw [hm5]
        have HM5 := Lib.hid hm5
        have HX5 := Lib.hid (HX.out.trans hx)
        have HO5 := Lib.hid (own_later HO.out hx)
        clear hown5 hx hm5
        have hx6 : Ext w5 (w5.alloc (.cells #[.string key, .slice A5 m5 c5] 83)) := Ext.alloc _ _
        have hww : w2.heap.size ≤ w5.heap.size := HX5.out.size
        go_wp2_with (first
          | (at_builtin
             refine app_row entC_len entC_one _ rfl (.tmp 51) (.tmp 56) 76 83 rfl i1 (.agg #[.string ByteArray.empty, .slice none 0 0]) 40 Try.underlying76 hi1 hz3 hz4 hz5 rfl (by decide) (by decide) w2.heap.size _ (es.take k) rfl (by exact own_later HO5.out hx6) (Nat.le_trans hww hx6.size) (some ⟨w5.heap.size, 0, none⟩) 1 1 [⟨key, A5, m5, c5⟩] rfl rfl (by exact Rd.new w5 #[_, _] 83) (by have := HLK.out; simp only [List.length_singleton]; omega) ?_
             intro v8 w8 hown8 hchg8
             have HO8 := Lib.hid hown8
             have HE8 : Hid (Ext w2 w8) := Lib.hid (((Chg.of_ext (HX5.out.trans hx6)).trans hchg8).to_ext (Nat.le_refl _))
             have HC8 := Lib.hid hchg8
             have d0 := heap_cell (HFD.out w8 HE8.out) 0
             clear hchg8 hown8)
          | (at_builtin
             refine app_row entC_len entC_one _ rfl (.tmp 58) (.tmp 64) 76 83 rfl i1 (.agg #[.string ByteArray.empty, .slice none 0 0]) 40 Try.underlying76 hi1 hz3 hz4 hz5 rfl (by decide) (by decide) w2.heap.size v8 (es.take k ++ [⟨key, A5, m5, c5⟩]) rfl HO8.out HE8.out.size A2 (n - k) (c - k) (es.drop k) rfl HLD.out (HR2.out.ext HE8.out) (by have := HLK.out; have := HLD.out; simp only [List.length_append, List.length_singleton]; omega) ?_
             intro v9 w9 hown9 hchg9
             generalize hn9 : (es.take k ++ [(⟨key, A5, m5, c5⟩ : EntV)] ++ es.drop k).length = n9 at hown9
             obtain ⟨A9, c9, rfl, _, _, _⟩ := own_slice hown9
             have HN9 := Lib.hid hn9
             clear hn9
             have HO9 := Lib.hid hown9
             have HE9 : Hid (Ext w2 w9) := Lib.hid (((Chg.of_ext HE8.out).trans hchg9).to_ext (Nat.le_refl _))
             have HC9 := Lib.hid hchg9
             have f0 := heap_frozen (HFD.out w9 HE9.out) 0
             have d1 := heap_cell (HFD.out w9 HE9.out) 0
             clear hchg9 hown9))
        go_ret
        have ho9 := own_chg (own_chg (own_later HRW5.out hx6) HC8.out (by simp)) HC9.out (by simp)
        have hrow9 := own_row ho9
        rw [HM5.out] at hrow9
        have hen := ((HE.out.ext HE9.out).take k).snoc (⟨rfl, hrow9, HOF.out⟩ : EntOk w9 r ⟨key, A5, m5, c5⟩ (key, srtL l))
        have hen2 := hen.app ((HE.out.ext HE9.out).drop k)
        rw [← HI.out] at hen2
        have hst := refX_store (by rw [HN9.out]; exact HO9.out) hrw2 (HFD.out w9 HE9.out) hen2
        refine ⟨by rw [rerrM_yes HT.out]; rfl, ?_⟩
        rw [rputM_yes HT.out]
        exact ⟨hst, HKP.out.and ((Kp.of_ext HE9.out).and (Kp.store r 0 _ (by simp)))⟩
end Go.Proofs.Ytccjbmmhdbainaa
