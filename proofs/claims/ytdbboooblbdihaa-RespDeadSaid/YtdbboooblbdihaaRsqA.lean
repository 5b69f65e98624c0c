/- RespWords walked. -/
import Derived.Test.YtdbboooblbdihaaRspY
namespace Go.Proofs.Ytdbboooblbdihaa
open Go.RowKit
set_option linter.unusedVariables false
set_option linter.unusedSectionVars false
set_option linter.unusedSimpArgs false
set_option maxRecDepth 100000



/-- Texts that fit. -/
def Fit (xs : List ByteArray) : Prop := ∀ s ∈ xs, s.size ≤ 9223372036854775807
def lenS : List ByteArray → Nat
  | [] => 0
  | x :: t => x.size + 6 + lenS t
theorem lenS_app : ∀ (a b : List ByteArray), lenS (a ++ b) = lenS a + lenS b
  | [], b => by simp [lenS]
  | x :: t, b => by rw [List.cons_append]; show x.size + 6 + lenS (t ++ b) = x.size + 6 + lenS t + lenS b; rw [lenS_app t b]; omega
theorem lenS_snoc {l : List ByteArray} {k : Nat} {x : ByteArray} (h : l[k]? = some x) : lenS (l.take (k + 1)) = lenS (l.take k) + x.size + 6 := by
  rw [List.take_add_one, h, lenS_app]
  show _ = _
  simp [lenS]
  omega
theorem lenS_le : ∀ (l : List ByteArray), (∀ x ∈ l, x.size ≤ 600) → lenS l ≤ l.length * 606
  | [], _ => by simp [lenS]
  | x :: t, h => by
    have h1 := lenS_le t (fun y hy => h y (by simp [hy]))
    have h2 := h x (by simp)
    show x.size + 6 + lenS t ≤ _
    rw [List.length_cons]
    omega
theorem decL_pos (n : Nat) : 0 < (decL (n : Int)).length := by rw [decL_nat]; exact digs_pos n
theorem body_ge : ∀ (ws : List ByteArray), lenS ws ≤ (bodyL ws).length
  | [] => by simp [lenS]
  | x :: t => by
    have h := body_ge t
    have h2 := decL_pos x.toList.length
    have h3 := size_list x
    show x.size + 6 + lenS t ≤ (bulkL x.toList ++ bodyL t).length
    rw [List.length_append]
    unfold bulkL
    rw [List.length_append, List.length_append, List.length_append, List.length_cons]
    have h4 : crlf.length = 2 := rfl
    omega
theorem frame_ge {ws : List ByteArray} (h : goodW ws) : 4 + lenS ws ≤ (frameB ws).size := by
  have e : frameB ws = bsv (frameL ws) := if_pos h
  have h2 := decL_pos ws.length
  have h3 := body_ge ws
  rw [e, bsv_size]
  show _ ≤ (headL ws.length ++ bodyL ws).length
  unfold headL
  rw [List.length_append, List.length_append, List.length_cons]
  have h4 : crlf.length = 2 := rfl
  omega
theorem frame_ne {ws : List ByteArray} (h : goodW ws) : ((frameB ws).toList == []) = false := by
  rw [beq_eq_false_iff_ne]
  intro e
  have h1 := frame_ge h
  rw [← size_list, e] at h1
  simp at h1
theorem frame_eq {a b : List ByteArray} (ha : goodW a) (hb : goodW b) (h : frameB a = frameB b) : a = b := by
  have e1 : frameB a = bsv (frameL a) := if_pos ha
  have e2 : frameB b = bsv (frameL b) := if_pos hb
  rw [e1, e2] at h
  have := congrArg ByteArray.toList h
  rw [bsv_list, bsv_list] at this
  exact frame_inj ha hb this
theorem frame_diff {a b : List ByteArray} (ha : goodW a) (hb : goodW b) (h : ¬ a = b) : ((frameB a).toList == (frameB b).toList) = false := by
  rw [beq_eq_false_iff_ne]
  exact fun e => h (frame_eq ha hb (bytes_ext e))
set_option maxHeartbeats 4000000 in
theorem respWords_any (va vb : Value) (a b : List ByteArray) (w : World) (ha : Txt w va a) (hb : Txt w vb b) : Calls Try.prog 10 #[va, vb] w fun e w' => e = .returned (.bool true) ∧ Ext w w' := by
  have HA := Lib.hid ha
  have HB := Lib.hid hb
  obtain ⟨A, n, c, rfl, hn, hnc, hcm, hr⟩ := ha
  obtain ⟨B, m, d, rfl, _⟩ := id hb
  subst hn
  have HR := Lib.hid hr
  clear hr hb
  by_cases hwa : wordsL a
  · have hda := decide_eq_true hwa
    by_cases hwb : wordsL b
    · have hdb := decide_eq_true hwb
      have h70 := hwa.1
      have HWA := Lib.hid hwa.2
      go_enter Try.func10, Try.ntmps10
      go_wp2_with fail
      refine (words_any _ a w HA.out).mono ?_
      rw [hda]
      rintro e _ ⟨rfl, rfl⟩
      go_wp2_with fail
      refine (words_any _ b w HB.out).mono ?_
      rw [hdb]
      rintro e _ ⟨rfl, rfl⟩
      clear hda hdb hwa hwb
      go_wp2_with fail
      refine (frame_any _ a w HA.out).mono ?_
      rintro e w1 ⟨rfl, hx1⟩
      have HX1 := Lib.hid hx1
      clear hx1
      go_wp2_with fail
      refine (frame_any _ b w1 (HB.out.ext HX1.out)).mono ?_
      rintro e w2 ⟨rfl, hx2⟩
      have HX2 := Lib.hid (HX1.out.trans hx2)
      clear hx2 HX1
      go_wp2_with fail
      go_loopw [7, 8] (fun nv iv wr => ∃ k : Nat, k ≤ a.length ∧ iv = .int .i64 (k : Int) ∧ nv = .int .i64 ((4 + lenS (a.take k) : Nat) : Int) ∧ wr = w2) (fun _ iv _ => a.length - (intOf iv).toNat)
      case atStart => exact ⟨0, by omega, rfl, rfl, rfl⟩
      case round =>
        obtain ⟨k, hk, rfl, rfl, rfl⟩ := hrel
        by_cases hkn : k < a.length
        · have hkI : (k : Int) < (a.length : Int) := by omega
          have hkJ : (0 : Int) ≤ (k : Int) := by omega
          obtain ⟨x, hxk⟩ : ∃ x, a[k]? = some x := ⟨_, List.getElem?_eq_getElem hkn⟩
          obtain ⟨ad, rfl, hcell⟩ := (HR.out.ext HX2.out).some_ (by rw [List.length_map]; omega)
          have d0 := hcell k (.string x) (by rw [List.getElem?_map, hxk]; rfl)
          have hx6 := HWA.out x (List.mem_of_getElem? hxk)
          have hls := lenS_le (a.take k) (fun y hy => HWA.out y (List.mem_of_mem_take hy))
          rw [List.length_take] at hls
          have HSN := Lib.hid (lenS_snoc hxk)
          obtain ⟨N, hN⟩ : ∃ N, 4 + lenS (a.take k) = N := ⟨_, rfl⟩
          have hNb : N ≤ 50000 := by rw [← hN]; have := Nat.mul_le_mul_right 606 (Nat.min_le_right k a.length); omega
          have HNN := Lib.hid hN
          rw [hN]
          clear hcell hxk hls hN
          go_wp2_with fail
          go_roundw
          case rel => exact ⟨k + 1, by omega, by go_num, by rw [HSN.out]; have := HNN.out; go_num, trivial⟩
          case measure => simp [intOf]; omega
        · have hkI : ¬ (k : Int) < (a.length : Int) := by omega
          obtain rfl : k = a.length := by omega
          rw [List.take_length]
          have hls := lenS_le a HWA.out
          by_cases hga : goodW a
          · have hne := frame_ne hga
            have hge := frame_ge hga
            have hsz : (frameB a).size ≤ 9223372036854775807 := by
              have e1 : frameB a = bsv (frameL a) := if_pos hga
              have h1 := headL_len a.length (by omega)
              have h2 := bodyL_len a hga.2
              rw [e1, bsv_size]
              show (headL a.length ++ bodyL a).length ≤ _
              rw [List.length_append]
              omega
            obtain ⟨N, hN⟩ : ∃ N, 4 + lenS a = N := ⟨_, rfl⟩
            rw [hN] at hge ⊢
            have hgeI : (N : Int) ≤ ((frameB a).size : Int) := by omega
            by_cases hgb : goodW b
            · have hnb := frame_ne hgb
              by_cases hab : a = b
              · have hsw : sameB a b = true := by simp [sameB, hab]
                have hfe : frameB b = frameB a := by rw [hab]
                rw [hfe]
                have hss : ((frameB a).toList == (frameB a).toList) = true := by simp
                have HSW := Lib.hid hsw
                generalize frameB a = x at hne hge hgeI hss
                clear hab hga hgb hsw hnb hsz hN hfe hls
                go_wp2_with fail
                refine (same_txt _ _ a b wr (HA.out.ext HX2.out) (HB.out.ext HX2.out)).mono ?_
                rw [HSW.out]
                rintro e w3 ⟨rfl, q, rfl⟩
                go_wp2_with fail
                refine (known_any _).mono ?_
                rintro e wk ⟨rfl, hxk⟩
                have HXK := Lib.hid ((HX2.out.trans (Ext.drewN q wr)).trans hxk)
                clear hxk
                go_wp2_with fail
                go_ret
                exact ⟨rfl, HXK.out⟩
              · have hsw : sameB a b = false := by simp [sameB, hab]
                have hss := frame_diff hga hgb hab
                have HSW := Lib.hid hsw
                generalize frameB a = x at hne hge hgeI hss
                generalize frameB b = y at hnb hss
                clear hab hga hgb hsw hsz hN hls
                go_wp2_with fail
                refine (same_txt _ _ a b wr (HA.out.ext HX2.out) (HB.out.ext HX2.out)).mono ?_
                rw [HSW.out]
                rintro e w3 ⟨rfl, q, rfl⟩
                go_wp2_with fail
                refine (known_any _).mono ?_
                rintro e wk ⟨rfl, hxk⟩
                have HXK := Lib.hid ((HX2.out.trans (Ext.drewN q wr)).trans hxk)
                clear hxk
                go_wp2_with fail
                go_ret
                exact ⟨rfl, HXK.out⟩
            · have hb0 : frameB b = ⟨#[]⟩ := if_neg hgb
              rw [hb0]
              generalize frameB a = x at hne hge hgeI
              clear hga hgb hsz hN hls hb0
              go_wp2_with fail
              refine (known_any _).mono ?_
              rintro e wk ⟨rfl, hxk⟩
              have HXK := Lib.hid ((HX2.out).trans hxk)
              clear hxk
              go_wp2_with fail
              go_ret
              exact ⟨rfl, HXK.out⟩
          · have ha0 : frameB a = ⟨#[]⟩ := if_neg hga
            rw [ha0]
            clear hga ha0
            go_wp2_with fail
            refine (known_any _).mono ?_
            rintro e wk ⟨rfl, hxk⟩
            have HXK := Lib.hid ((HX2.out).trans hxk)
            clear hxk
            go_wp2_with fail
            go_ret
            exact ⟨rfl, HXK.out⟩
    · have hdb := decide_eq_false hwb
      go_enter Try.func10, Try.ntmps10
      go_wp2_with fail
      refine (words_any _ a w HA.out).mono ?_
      rw [hda]
      rintro e _ ⟨rfl, rfl⟩
      go_wp2_with fail
      refine (words_any _ b w HB.out).mono ?_
      rw [hdb]
      rintro e _ ⟨rfl, rfl⟩
      go_wp2_with fail
      refine (known_any _).mono ?_
      rintro e wk ⟨rfl, hxk⟩
      have HXK := Lib.hid ((Ext.refl w).trans hxk)
      clear hxk
      go_wp2_with fail
      go_ret
      exact ⟨rfl, HXK.out⟩
  · have hda := decide_eq_false hwa
    go_enter Try.func10, Try.ntmps10
    go_wp2_with fail
    refine (words_any _ a w HA.out).mono ?_
    rw [hda]
    rintro e _ ⟨rfl, rfl⟩
    go_wp2_with fail
    refine (known_any _).mono ?_
    rintro e wk ⟨rfl, hxk⟩
    have HXK := Lib.hid ((Ext.refl w).trans hxk)
    clear hxk
    go_wp2_with fail
    go_ret
    exact ⟨rfl, HXK.out⟩
end Go.Proofs.Ytdbboooblbdihaa
