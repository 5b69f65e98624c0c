/- The plain law of a term's text: read as it. -/
import Derived.Test.YtccjbmmhdbainaaFltE
namespace Go.Proofs.Ytccjbmmhdbainaa
open Go.RowKit Sets
set_option linter.unusedVariables false
set_option linter.unusedSectionVars false
set_option linter.unusedSimpArgs false
set_option maxRecDepth 100000

theorem word_ok {s : ByteArray} (h : wordB s = true) : (∀ a ∈ s.toList, okC a = true) ∧ 1 ≤ s.toList.length := by
  unfold wordB wordL at h
  rw [Bool.and_eq_true, Bool.and_eq_true, decide_eq_true_eq, List.all_eq_true] at h
  exact ⟨h.1, h.2.1⟩
theorem okC_ne {a : UInt8} (h : okC a = true) : a ≠ 61 ∧ a ≠ 33 ∧ a ≠ 40 ∧ a ≠ 41 ∧ a ≠ 44 := by
  refine ⟨?_, ?_, ?_, ?_, ?_⟩
  all_goals
    rintro rfl
    revert h
    decide
theorem backs_txts (vs : List ByteArray) : backs (txts vs) = vs := txts_inj (txts_backs (txts vs))
theorem inner_list {vs : List ByteArray} (h : ∀ v ∈ vs, wordB v = true) : innerL (listL (txts vs)) = txts vs := by
  match vs, h with
  | [], _ => rfl
  | [v], h =>
    obtain ⟨h1, h2⟩ := word_ok (h v (by simp))
    show innerL (joinL [v.toList]) = [v.toList]
    show innerL v.toList = [v.toList]
    refine inner_one ?_ (by rw [← size_list]; omega)
    unfold parenL
    have hx : v.toList[0]? = some (v.toList[0]'(by omega)) := List.getElem?_eq_getElem (by omega)
    rw [decide_eq_false (p := v.toList[0]? = some 40) (by
      rw [hx]
      intro e
      injection e with e
      exact (okC_ne (h1 _ (List.getElem_mem _))).2.2.1 e)]
    rfl
  | v :: w :: t, h =>
    have hj : ∀ x ∈ txts (v :: w :: t), ∀ a ∈ x, a ≠ 44 := by
      intro x hx a ha
      obtain ⟨y, hy, rfl⟩ := List.mem_map.1 hx
      exact (okC_ne ((word_ok (h y hy)).1 a ha)).2.2.2.2
    have hl : 1 < (txts (v :: w :: t)).length := by rw [txts_len]; simp
    have hs := spl_join (txts (v :: w :: t)) (by intro e; rw [e] at hl; simp at hl) hj
    generalize txts (v :: w :: t) = vs at hl hs ⊢
    have e1 : listL vs = 40 :: (joinL vs ++ [41]) := by unfold listL; rw [if_pos hl]
    have hp : parenL (40 :: (joinL vs ++ [41])) = true := by
      unfold parenL
      have h2 : (40 :: (joinL vs ++ [41]) : List UInt8)[(40 :: (joinL vs ++ [41]) : List UInt8).length - 1]? = some 41 := by
        simp only [List.length_cons, List.length_append, List.length_nil]
        rw [show (joinL vs).length + (0 + 1) + 1 - 1 = (joinL vs).length + 1 by omega, List.getElem?_cons_succ, List.getElem?_append_right (Nat.le_refl _)]
        simp
      rw [h2]
      simp
    rw [e1]
    unfold innerL
    rw [if_neg (by simp), if_pos hp]
    have e2 : ((40 :: (joinL vs ++ [41]) : List UInt8).drop 1).take ((40 :: (joinL vs ++ [41]) : List UInt8).length - 2) = joinL vs := by
      simp only [List.length_cons, List.length_append, List.length_nil, List.drop_succ_cons, List.drop_zero]
      rw [show (joinL vs).length + (0 + 1) + 1 - 2 = (joinL vs).length by omega, List.take_left]
    rw [e2]
    exact hs
theorem parse_show {t : Tm} (h : rightT t = true) : parseB (showB t) = some t := by
  obtain ⟨hv, hl, hn⟩ := right_vals h
  obtain ⟨hn1, hn2⟩ := word_ok hn
  unfold parseB parseL
  rw [showB_list]
  have hs : showL t = bodyL t := by unfold showL; rw [if_pos h]
  rw [hs]
  have hin := inner_list hv
  obtain ⟨name, nt, vals⟩ := t
  cases nt with
  | false =>
    have hc : cutL 61 (bodyL ⟨name, false, vals⟩) = some (name.toList, listL (txts vals)) := by
      have : bodyL ⟨name, false, vals⟩ = name.toList ++ 61 :: listL (txts vals) := by simp [bodyL, signL]
      rw [this]
      exact cutL_app (fun a ha => (okC_ne (hn1 a ha)).1)
    have ht : termL name.toList (listL (txts vals)) = ⟨name, false, vals⟩ := by
      unfold termL
      rw [if_neg (by
        unfold endsN
        have hx : name.toList[name.toList.length - 1]? = some (name.toList[name.toList.length - 1]'(by dsimp only at hn2; omega)) := List.getElem?_eq_getElem (by dsimp only at hn2; omega)
        rw [hx, decide_eq_true_eq]
        intro e
        injection e with e
        exact (okC_ne (hn1 _ (List.getElem_mem _))).2.1 e), hin, backs_txts, bytes_mk]
    rw [hc]
    dsimp only
    rw [ht, if_pos h]
  | true =>
    have hc : cutL 61 (bodyL ⟨name, true, vals⟩) = some (name.toList ++ [33], listL (txts vals)) := by
      have : bodyL ⟨name, true, vals⟩ = (name.toList ++ [33]) ++ 61 :: listL (txts vals) := by simp [bodyL, signL]
      rw [this]
      refine cutL_app (fun a ha => ?_)
      rcases List.mem_append.1 ha with ha | ha
      · exact (okC_ne (hn1 a ha)).1
      · simp at ha
        subst ha
        decide
    have ht : termL (name.toList ++ [33]) (listL (txts vals)) = ⟨name, true, vals⟩ := by
      unfold termL
      rw [if_pos (by
        unfold endsN
        rw [List.length_append, List.length_singleton, Nat.add_sub_cancel, List.getElem?_append_right (Nat.le_refl _)]
        simp), hin, backs_txts, List.length_append, List.length_singleton, Nat.add_sub_cancel, List.take_left, bytes_mk]
    rw [hc]
    dsimp only
    rw [ht, if_pos h]
theorem parse_noshow {t : Tm} (h : rightT t = false) : parseB (showB t) = none := by
  unfold parseB parseL
  rw [showB_list]
  have hs : showL t = [] := by unfold showL; rw [h]; rfl
  rw [hs, cutL_no (by simp)]
theorem paren_mid {l : List UInt8} (h : parenL l = true) : l = 40 :: ((l.drop 1).take (l.length - 2) ++ [41]) ∧ 2 ≤ l.length := by
  unfold parenL at h
  rw [Bool.and_eq_true, Bool.and_eq_true, decide_eq_true_eq, decide_eq_true_eq, decide_eq_true_eq] at h
  obtain ⟨⟨h0, h1⟩, h2⟩ := h
  have hl0 := (List.getElem?_eq_some_iff.1 h0).1
  have hl : 2 ≤ l.length := by omega
  refine ⟨?_, hl⟩
  match l, h0, h1, hl with
  | a :: t, h0, h1, hl =>
    simp at h0
    subst h0
    congr 1
    rw [List.drop_succ_cons, List.drop_zero, List.length_cons]
    have ht : t = t.take (t.length - 1) ++ [t[t.length - 1]'(by simp at hl; omega)] := by
      have := List.take_append_drop (t.length - 1) t
      rw [List.drop_eq_getElem_cons (by simp at hl; omega), List.drop_of_length_le (by simp at hl; omega)] at this
      exact this.symm
    have he : t[t.length - 1]'(by simp at hl; omega) = 41 := by
      rw [List.length_cons, Nat.add_sub_cancel] at h1
      have : t.length = (t.length - 1) + 1 := by simp at hl; omega
      rw [this, List.getElem?_cons_succ] at h1
      exact (List.getElem?_eq_some_iff.1 h1).2
    rw [he] at ht
    rw [show t.length + 1 - 2 = t.length - 1 by omega]
    exact ht
/-- What is read, and written anew. -/
theorem list_inner (rest : List UInt8) : listL (innerL rest) = rest ∨ ((innerL rest).length = 1 ∧ rest.length = (listL (innerL rest)).length + 2) := by
  unfold innerL
  by_cases h0 : rest.length = 0
  · rw [if_pos h0]
    exact .inl (List.eq_nil_of_length_eq_zero h0).symm
  · rw [if_neg h0]
    by_cases hp : parenL rest = true
    · rw [if_pos hp]
      obtain ⟨hm, hl⟩ := paren_mid hp
      generalize (rest.drop 1).take (rest.length - 2) = mid at hm
      by_cases h1 : (splL mid).length = 1
      · right
        refine ⟨h1, ?_⟩
        have : listL (splL mid) = mid := by
          unfold listL
          rw [if_neg (by omega), join_spl]
        rw [this, hm]
        simp
      · left
        have h2 : 1 < (splL mid).length := by
          have := List.length_pos_iff.2 (splL_ne mid)
          omega
        unfold listL
        rw [if_pos h2, join_spl]
        exact hm.symm
    · rw [if_neg hp]
      left
      rfl
theorem back_law {s : ByteArray} {v : Tm} (h : parseB s = some v) : rightT v = true ∧ (showB v = s ∨ (v.vals.length = 1 ∧ s.size = (showB v).size + 2)) := by
  unfold parseB parseL at h
  cases hc : cutL 61 s.toList with
  | none => rw [hc] at h; cases h
  | some p =>
    obtain ⟨name, rest⟩ := p
    rw [hc] at h
    dsimp only at h
    by_cases hr : rightT (termL name rest) = true
    · rw [if_pos hr] at h
      injection h with h
      subst h
      refine ⟨hr, ?_⟩
      obtain ⟨hs, _⟩ := cutL_some hc
      have hb : bodyL (termL name rest) = name ++ 61 :: listL (innerL rest) ∧ (termL name rest).vals.length = (innerL rest).length := by
        unfold termL
        by_cases he : endsN name = true
        · rw [if_pos he]
          unfold endsN at he
          rw [decide_eq_true_eq] at he
          have hn : name = name.take (name.length - 1) ++ [33] := by
            have hl := (List.getElem?_eq_some_iff.1 he).1
            have := List.take_append_drop (name.length - 1) name
            rw [List.drop_eq_getElem_cons hl, (List.getElem?_eq_some_iff.1 he).2, List.drop_of_length_le (by omega)] at this
            exact this.symm
          refine ⟨?_, List.length_map _⟩
          unfold bodyL signL
          dsimp only
          rw [toList_mk, txts_backs]
          conv => rhs; rw [hn]
          simp
        · rw [if_neg he]
          refine ⟨?_, List.length_map _⟩
          unfold bodyL signL
          dsimp only
          rw [toList_mk, txts_backs]
          simp
      have hsl : showL (termL name rest) = name ++ 61 :: listL (innerL rest) := by unfold showL; rw [if_pos hr, hb.1]
      rcases list_inner rest with hi | ⟨hi1, hi2⟩
      · left
        refine bytes_ext ?_
        rw [showB_list, hsl, hi, hs]
      · right
        refine ⟨by rw [hb.2, hi1], ?_⟩
        rw [← size_list, ← size_list, showB_list, hsl, hs]
        simp only [List.length_append, List.length_cons]
        omega
    · rw [if_neg hr] at h
      cases h
end Go.Proofs.Ytccjbmmhdbainaa

/- FilterBack walked. -/
namespace Go.Proofs.Ytccjbmmhdbainaa
open Go.RowKit Sets
set_option linter.unusedVariables false
set_option linter.unusedSectionVars false
set_option linter.unusedSimpArgs false
set_option maxRecDepth 100000

theorem parT_ok (s : ByteArray) : TmOk (parT s) := by
  unfold parT
  cases h : parseB s with
  | none => exact ⟨by show okS ⟨#[]⟩; unfold okS; decide, fun v hv => by simp at hv⟩
  | some t =>
    obtain ⟨hv, _, hn⟩ := right_vals (back_law h).1
    have hsz : ∀ x, wordB x = true → okS x := fun x hx => by
      have := word_size hx
      unfold okS
      omega
    exact ⟨hsz _ hn, fun v h => hsz _ (hv v h)⟩
theorem showB_le (t : Tm) : (showB t).size ≤ 1200 := by
  rw [← size_list, showB_list]
  unfold showL
  split
  · rename_i h; exact body_le h
  · exact Nat.zero_le _
theorem parN_some {s : ByteArray} {t : Tm} (h : parseB s = some t) : parT s = t ∧ parN s = 0 := by
  unfold parT parN
  rw [h]
  exact ⟨rfl, rfl⟩
theorem parN_none {s : ByteArray} (h : parseB s = none) : parT s = ⟨⟨#[]⟩, false, []⟩ ∧ parN s = 4 := by
  unfold parT parN
  rw [h]
  exact ⟨rfl, rfl⟩
set_option maxHeartbeats 40000000 in
theorem filterBack_any (t : Tm) (u : Value) (s : ByteArray) (w : World) (ha : Txt w u t.vals) (hao : TmOk t) (hs : s.size ≤ 9223372036854775807) :
    Calls Try.prog 6 #[tmV t u, .string s] w fun e w' => e = .returned (.bool true) ∧ Ext w w' := by
  obtain ⟨na, ta, va⟩ := t
  have HA := Lib.hid ha
  have HAO := Lib.hid hao
  obtain ⟨A, n, c, rfl, _⟩ := ha
  clear hao
  simp only [tmV]
  go_enter Try.func6, Try.ntmps6
  go_upto_region 1 with fail
  have hb := heap_alloc_new w (.cells #[.string na, .bool ta, .slice A n c] 24 (0, 0))
  have hx1 := Ext.alloc w (.cells #[.string na, .bool ta, .slice A n c] 24)
  generalize w.alloc (.cells #[.string na, .bool ta, .slice A n c] 24) = w2 at hb hx1 ⊢
  generalize w.heap.size = p at hb ⊢
  have HX := Lib.hid hx1
  have HP := Lib.hid hb
  clear hb hx1
  obtain ⟨d0, d1, d2⟩ := tm_cells HP.out (Ext.refl _)
  go_wp2_with fail
  refine (tlight_any ⟨na, ta, va⟩ (.slice A n c) w2 (HA.out.ext HX.out)).mono ?_
  rintro e v3 ⟨⟨ba, rfl, hba⟩, hx⟩
  have HX3 := Lib.hid hx
  clear hx d0 d1 d2 hba
  obtain ⟨d0, d1, d2⟩ := tm_cells HP.out HX3.out
  cases ba with
  | false =>
    go_wp2_with fail
    refine (known_any _).mono ?_
    rintro e v99 ⟨rfl, hx9⟩
    go_wp2_with fail
    go_ret
    exact ⟨rfl, (HX.out.trans HX3.out).trans hx9⟩
  | true =>
    by_cases h300 : s.size ≤ 300
    · have h300I : decide ((300 : Int) < (s.size : Int)) = false := decide_eq_false (by omega)
      have h300J : decide (300 < s.size) = false := decide_eq_false (by omega)
      have HZ1 := Lib.hid (showB_le ⟨na, ta, va⟩)
      have HZ2 := Lib.hid (showB_le (parT s))
      have HO7 := Lib.hid (parT_ok s)
      cases hrt : rightT ⟨na, ta, va⟩ with
      | true =>
        have HRT := Lib.hid hrt
        have h56 := parN_some (parse_show hrt)
        have HSE : Hid (sameT ⟨na, ta, va⟩ (parT (showB ⟨na, ta, va⟩)) = true) := Lib.hid (by rw [h56.1]; exact sameT_refl _)
        obtain ⟨T5, hT5⟩ : ∃ T, parT (showB ⟨na, ta, va⟩) = T := ⟨_, rfl⟩
        have HT5 := Lib.hid hT5
        have HN6 := Lib.hid h56.2
        rw [hT5] at HSE
        clear hT5 h56 hrt
        cases hps : parseB s with
        | none =>
          have h78 := parN_none hps
          have h90 := parN_none (parse_noshow (t := parT s) (by rw [h78.1]; exact right_noname word_empty))
          obtain ⟨T7, hT7⟩ : ∃ T, parT s = T := ⟨_, rfl⟩
          have HT7 := Lib.hid hT7
          have HN8 := Lib.hid h78.2
          rw [hT7] at h90 HZ2 HO7
          obtain ⟨T9, hT9⟩ : ∃ T, parT (showB T7) = T := ⟨_, rfl⟩
          have HT9 := Lib.hid hT9
          have HN10 := Lib.hid h90.2
          clear hT7 hT9 h78 h90 hps
          go_wp2_with fail
          refine (show_any ⟨na, ta, va⟩ (.slice A n c) v3 (HA.out.ext (HX.out.trans HX3.out)) HAO.out).mono ?_
          rintro e v4 ⟨t1, rfl, ht1, hx⟩
          obtain rfl : t1 = showB ⟨na, ta, va⟩ := bytes_ext (by rw [ht1, showB_list])
          have HX4 := Lib.hid (HX3.out.trans hx)
          clear hx ht1 d0 d1 d2
          go_wp2_with fail
          refine (parse_det (showB ⟨na, ta, va⟩) v4 (by have := HZ1.out; omega)).mono ?_
          rintro e v5 ⟨u5, rfl, hu, hx⟩
          rw [HT5.out, HN6.out]
          rw [HT5.out] at hu
          obtain ⟨xn, xt, xv⟩ := T5
          obtain ⟨A5, m5, k5, rfl, _⟩ := id hu
          have hb5 := heap_alloc_new v5 (.cells #[.string xn, .bool xt, .slice A5 m5 k5] 24 (0, 0))
          have hx5 := hx.trans (Ext.alloc v5 (.cells #[.string xn, .bool xt, .slice A5 m5 k5] 24))
          have hu5 := hu.ext (Ext.alloc v5 (.cells #[.string xn, .bool xt, .slice A5 m5 k5] 24))
          simp only [tmV]
          go_upto_region 4 with fail
          generalize v5.alloc (.cells #[.string xn, .bool xt, .slice A5 m5 k5] 24) = v6 at hb5 hx5 hu5 ⊢
          generalize v5.heap.size = p5 at hb5 ⊢
          have HX6 := Lib.hid (HX4.out.trans hx5)
          have HB6 := Lib.hid hb5
          have HU6 := Lib.hid hu5
          clear hb5 hx5 hu5 hu hx
          go_wp2_with fail
          refine (parse_det s v6 (by omega)).mono ?_
          rintro e v7 ⟨u7, rfl, hu, hx⟩
          rw [HT7.out, HN8.out]
          rw [HT7.out] at hu
          obtain ⟨yn, yt, yv⟩ := T7
          obtain ⟨A7, m7, k7, rfl, hm7, _⟩ := id hu
          have hb7 := heap_alloc_new v7 (.cells #[.string yn, .bool yt, .slice A7 m7 k7] 24 (0, 0))
          have hx7 := hx.trans (Ext.alloc v7 (.cells #[.string yn, .bool yt, .slice A7 m7 k7] 24))
          have hu7 := hu.ext (Ext.alloc v7 (.cells #[.string yn, .bool yt, .slice A7 m7 k7] 24))
          simp only [tmV]
          go_upto_region 5 with fail
          generalize v7.alloc (.cells #[.string yn, .bool yt, .slice A7 m7 k7] 24) = v8 at hb7 hx7 hu7 ⊢
          generalize v7.heap.size = p7 at hb7 ⊢
          have HX8 := Lib.hid (HX6.out.trans hx7)
          have HB8 := Lib.hid ((Cm.of_ext hx7).cells _ _ _ _ HB6.out)
          have HU8 := Lib.hid (HU6.out.ext hx7)
          have HC8 := Lib.hid hb7
          have HV8 := Lib.hid hu7
          have HM7 := Lib.hid hm7
          clear hb7 hx7 hu7 hu hx HB6 HU6 hm7
          obtain ⟨e0, e1, e2⟩ := tm_cells HC8.out (Ext.refl _)
          go_wp2_with fail
          refine (show_any ⟨yn, yt, yv⟩ (.slice A7 m7 k7) v8 HV8.out HO7.out).mono ?_
          rintro e v9 ⟨t2, rfl, ht2, hx⟩
          obtain rfl : t2 = showB ⟨yn, yt, yv⟩ := bytes_ext (by rw [ht2, showB_list])
          have HX9 := Lib.hid hx
          clear hx ht2 e0 e1 e2
          go_wp2_with fail
          refine (parse_det (showB ⟨yn, yt, yv⟩) v9 (by have := HZ2.out; omega)).mono ?_
          rintro e v10 ⟨u9, rfl, hu, hx⟩
          rw [HT9.out, HN10.out]
          rw [HT9.out] at hu
          obtain ⟨zn, zt, zv⟩ := T9
          obtain ⟨A9, m9, k9, rfl, _⟩ := id hu
          have hb9 := heap_alloc_new v10 (.cells #[.string zn, .bool zt, .slice A9 m9 k9] 24 (0, 0))
          have hx9 := hx.trans (Ext.alloc v10 (.cells #[.string zn, .bool zt, .slice A9 m9 k9] 24))
          have hu9 := hu.ext (Ext.alloc v10 (.cells #[.string zn, .bool zt, .slice A9 m9 k9] 24))
          simp only [tmV]
          go_upto_region 6 with fail
          generalize v10.alloc (.cells #[.string zn, .bool zt, .slice A9 m9 k9] 24) = v11 at hb9 hx9 hu9 ⊢
          generalize v10.heap.size = p9 at hb9 ⊢
          have HX11 := Lib.hid (HX8.out.trans (HX9.out.trans hx9))
          have HP11 := Lib.hid ((Cm.of_ext HX11.out).cells _ _ _ _ HP.out)
          have HA11 := Lib.hid (HA.out.ext (HX.out.trans HX11.out))
          have HB11 := Lib.hid ((Cm.of_ext (HX9.out.trans hx9)).cells _ _ _ _ HB8.out)
          have HU11 := Lib.hid (HU8.out.ext (HX9.out.trans hx9))
          have HC11 := Lib.hid ((Cm.of_ext (HX9.out.trans hx9)).cells _ _ _ _ HC8.out)
          have HV11 := Lib.hid (HV8.out.ext (HX9.out.trans hx9))
          have HD11 := Lib.hid hb9
          have HW11 := Lib.hid hu9
          clear hb9 hx9 hu9 hu hx HB8 HU8 HC8 HV8 HX4 HX6 HX8 HX9 HX3
          obtain ⟨d0, d1, d2⟩ := tm_cells HP11.out (Ext.refl _)
          go_wp2_with fail
          refine (right_term ⟨na, ta, va⟩ (.slice A n c) v11 HA11.out HAO.out).mono ?_
          rintro e v12 ⟨rfl, hx⟩
          rw [HRT.out]
          have HY := Lib.hid hx
          clear hx d0 d1 d2
          rename World => vy
          obtain ⟨d0, d1, d2⟩ := tm_cells HP11.out HY.out
          obtain ⟨f0, f1, f2⟩ := tm_cells HB11.out HY.out
          go_wp2_with fail
          refine (tsame_any ⟨na, ta, va⟩ ⟨xn, xt, xv⟩ (.slice A n c) (.slice A5 m5 k5) vy (HA11.out.ext HY.out) (HU11.out.ext HY.out)).mono ?_
          rintro e v13 ⟨rfl, hx⟩
          rw [HSE.out]
          have HZ := Lib.hid (HY.out.trans hx)
          clear hx d0 d1 d2 f0 f1 f2 HY
          have HY := HZ
          clear HZ
          rename World => vz
          go_wp2_with fail
          refine (known_any _).mono ?_
          rintro e v99 ⟨rfl, hx9⟩
          go_wp2_with fail
          go_ret
          exact ⟨rfl, (HX.out.trans (HX11.out.trans HY.out)).trans hx9⟩
        | some V =>
          have h78 := parN_some hps
          have hbl := back_law hps
          have h90 := parN_some (parse_show hbl.1)
          rw [← h78.1] at h90 hbl
          obtain ⟨T7, hT7⟩ : ∃ T, parT s = T := ⟨_, rfl⟩
          have HT7 := Lib.hid hT7
          have HN8 := Lib.hid h78.2
          rw [hT7] at h90 HZ2 HO7 hbl
          have HR7 := Lib.hid hbl.1
          have HS7 : Hid (sameT T7 (parT (showB T7)) = true) := Lib.hid (by rw [h90.1]; exact sameT_refl _)
          obtain ⟨T9, hT9⟩ : ∃ T, parT (showB T7) = T := ⟨_, rfl⟩
          have HT9 := Lib.hid hT9
          have HN10 := Lib.hid h90.2
          rw [hT9] at HS7
          rcases hbl.2 with hsh | hsh
          · have HSH := Lib.hid hsh
            clear hT7 hT9 h78 h90 hps hbl hsh
            go_wp2_with fail
            refine (show_any ⟨na, ta, va⟩ (.slice A n c) v3 (HA.out.ext (HX.out.trans HX3.out)) HAO.out).mono ?_
            rintro e v4 ⟨t1, rfl, ht1, hx⟩
            obtain rfl : t1 = showB ⟨na, ta, va⟩ := bytes_ext (by rw [ht1, showB_list])
            have HX4 := Lib.hid (HX3.out.trans hx)
            clear hx ht1 d0 d1 d2
            go_wp2_with fail
            refine (parse_det (showB ⟨na, ta, va⟩) v4 (by have := HZ1.out; omega)).mono ?_
            rintro e v5 ⟨u5, rfl, hu, hx⟩
            rw [HT5.out, HN6.out]
            rw [HT5.out] at hu
            obtain ⟨xn, xt, xv⟩ := T5
            obtain ⟨A5, m5, k5, rfl, _⟩ := id hu
            have hb5 := heap_alloc_new v5 (.cells #[.string xn, .bool xt, .slice A5 m5 k5] 24 (0, 0))
            have hx5 := hx.trans (Ext.alloc v5 (.cells #[.string xn, .bool xt, .slice A5 m5 k5] 24))
            have hu5 := hu.ext (Ext.alloc v5 (.cells #[.string xn, .bool xt, .slice A5 m5 k5] 24))
            simp only [tmV]
            go_upto_region 4 with fail
            generalize v5.alloc (.cells #[.string xn, .bool xt, .slice A5 m5 k5] 24) = v6 at hb5 hx5 hu5 ⊢
            generalize v5.heap.size = p5 at hb5 ⊢
            have HX6 := Lib.hid (HX4.out.trans hx5)
            have HB6 := Lib.hid hb5
            have HU6 := Lib.hid hu5
            clear hb5 hx5 hu5 hu hx
            go_wp2_with fail
            refine (parse_det s v6 (by omega)).mono ?_
            rintro e v7 ⟨u7, rfl, hu, hx⟩
            rw [HT7.out, HN8.out]
            rw [HT7.out] at hu
            obtain ⟨yn, yt, yv⟩ := T7
            obtain ⟨A7, m7, k7, rfl, hm7, _⟩ := id hu
            have hb7 := heap_alloc_new v7 (.cells #[.string yn, .bool yt, .slice A7 m7 k7] 24 (0, 0))
            have hx7 := hx.trans (Ext.alloc v7 (.cells #[.string yn, .bool yt, .slice A7 m7 k7] 24))
            have hu7 := hu.ext (Ext.alloc v7 (.cells #[.string yn, .bool yt, .slice A7 m7 k7] 24))
            simp only [tmV]
            go_upto_region 5 with fail
            generalize v7.alloc (.cells #[.string yn, .bool yt, .slice A7 m7 k7] 24) = v8 at hb7 hx7 hu7 ⊢
            generalize v7.heap.size = p7 at hb7 ⊢
            have HX8 := Lib.hid (HX6.out.trans hx7)
            have HB8 := Lib.hid ((Cm.of_ext hx7).cells _ _ _ _ HB6.out)
            have HU8 := Lib.hid (HU6.out.ext hx7)
            have HC8 := Lib.hid hb7
            have HV8 := Lib.hid hu7
            have HM7 := Lib.hid hm7
            clear hb7 hx7 hu7 hu hx HB6 HU6 hm7
            obtain ⟨e0, e1, e2⟩ := tm_cells HC8.out (Ext.refl _)
            go_wp2_with fail
            refine (show_any ⟨yn, yt, yv⟩ (.slice A7 m7 k7) v8 HV8.out HO7.out).mono ?_
            rintro e v9 ⟨t2, rfl, ht2, hx⟩
            obtain rfl : t2 = showB ⟨yn, yt, yv⟩ := bytes_ext (by rw [ht2, showB_list])
            have HX9 := Lib.hid hx
            clear hx ht2 e0 e1 e2
            go_wp2_with fail
            refine (parse_det (showB ⟨yn, yt, yv⟩) v9 (by have := HZ2.out; omega)).mono ?_
            rintro e v10 ⟨u9, rfl, hu, hx⟩
            rw [HT9.out, HN10.out]
            rw [HT9.out] at hu
            obtain ⟨zn, zt, zv⟩ := T9
            obtain ⟨A9, m9, k9, rfl, _⟩ := id hu
            have hb9 := heap_alloc_new v10 (.cells #[.string zn, .bool zt, .slice A9 m9 k9] 24 (0, 0))
            have hx9 := hx.trans (Ext.alloc v10 (.cells #[.string zn, .bool zt, .slice A9 m9 k9] 24))
            have hu9 := hu.ext (Ext.alloc v10 (.cells #[.string zn, .bool zt, .slice A9 m9 k9] 24))
            simp only [tmV]
            go_upto_region 6 with fail
            generalize v10.alloc (.cells #[.string zn, .bool zt, .slice A9 m9 k9] 24) = v11 at hb9 hx9 hu9 ⊢
            generalize v10.heap.size = p9 at hb9 ⊢
            have HX11 := Lib.hid (HX8.out.trans (HX9.out.trans hx9))
            have HP11 := Lib.hid ((Cm.of_ext HX11.out).cells _ _ _ _ HP.out)
            have HA11 := Lib.hid (HA.out.ext (HX.out.trans HX11.out))
            have HB11 := Lib.hid ((Cm.of_ext (HX9.out.trans hx9)).cells _ _ _ _ HB8.out)
            have HU11 := Lib.hid (HU8.out.ext (HX9.out.trans hx9))
            have HC11 := Lib.hid ((Cm.of_ext (HX9.out.trans hx9)).cells _ _ _ _ HC8.out)
            have HV11 := Lib.hid (HV8.out.ext (HX9.out.trans hx9))
            have HD11 := Lib.hid hb9
            have HW11 := Lib.hid hu9
            clear hb9 hx9 hu9 hu hx HB8 HU8 HC8 HV8 HX4 HX6 HX8 HX9 HX3
            obtain ⟨d0, d1, d2⟩ := tm_cells HP11.out (Ext.refl _)
            go_wp2_with fail
            refine (right_term ⟨na, ta, va⟩ (.slice A n c) v11 HA11.out HAO.out).mono ?_
            rintro e v12 ⟨rfl, hx⟩
            rw [HRT.out]
            have HY := Lib.hid hx
            clear hx d0 d1 d2
            rename World => vy
            obtain ⟨d0, d1, d2⟩ := tm_cells HP11.out HY.out
            obtain ⟨f0, f1, f2⟩ := tm_cells HB11.out HY.out
            go_wp2_with fail
            refine (tsame_any ⟨na, ta, va⟩ ⟨xn, xt, xv⟩ (.slice A n c) (.slice A5 m5 k5) vy (HA11.out.ext HY.out) (HU11.out.ext HY.out)).mono ?_
            rintro e v13 ⟨rfl, hx⟩
            rw [HSE.out]
            have HZ := Lib.hid (HY.out.trans hx)
            clear hx d0 d1 d2 f0 f1 f2 HY
            have HY := HZ
            clear HZ
            rename World => vz
            obtain ⟨d0, d1, d2⟩ := tm_cells HC11.out HY.out
            go_wp2_with fail
            refine (right_term ⟨yn, yt, yv⟩ (.slice A7 m7 k7) vz (HV11.out.ext HY.out) HO7.out).mono ?_
            rintro e v14 ⟨rfl, hx⟩
            rw [HR7.out]
            have HY14 := Lib.hid (HY.out.trans hx)
            clear hx d0 d1 d2
            obtain ⟨d0, d1, d2⟩ := tm_cells HC11.out HY14.out
            obtain ⟨f0, f1, f2⟩ := tm_cells HD11.out HY14.out
            go_wp2_with fail
            refine (tsame_any ⟨yn, yt, yv⟩ ⟨zn, zt, zv⟩ (.slice A7 m7 k7) (.slice A9 m9 k9) v14 (HV11.out.ext HY14.out) (HW11.out.ext HY14.out)).mono ?_
            rintro e v15 ⟨rfl, hx⟩
            rw [HS7.out]
            have HY15 := Lib.hid (HY14.out.trans hx)
            clear hx d0 d1 d2 f0 f1 f2
            obtain ⟨d0, d1, d2⟩ := tm_cells HC11.out HY15.out
            go_wp2_with fail
            refine (show_any ⟨yn, yt, yv⟩ (.slice A7 m7 k7) v15 (HV11.out.ext HY15.out) HO7.out).mono ?_
            rintro e v16 ⟨t3, rfl, ht3, hx⟩
            obtain rfl : t3 = showB ⟨yn, yt, yv⟩ := bytes_ext (by rw [ht3, showB_list])
            have HY16 := Lib.hid (HY15.out.trans hx)
            clear hx ht3 d0 d1 d2
            rw [HSH.out]
            go_wp2_with fail
            refine (known_any _).mono ?_
            rintro e v99 ⟨rfl, hx9⟩
            go_wp2_with fail
            go_ret
            exact ⟨rfl, (HX.out.trans (HX11.out.trans HY16.out)).trans hx9⟩
          · have HSH := Lib.hid hsh
            clear hT7 hT9 h78 h90 hps hbl hsh
            go_wp2_with fail
            refine (show_any ⟨na, ta, va⟩ (.slice A n c) v3 (HA.out.ext (HX.out.trans HX3.out)) HAO.out).mono ?_
            rintro e v4 ⟨t1, rfl, ht1, hx⟩
            obtain rfl : t1 = showB ⟨na, ta, va⟩ := bytes_ext (by rw [ht1, showB_list])
            have HX4 := Lib.hid (HX3.out.trans hx)
            clear hx ht1 d0 d1 d2
            go_wp2_with fail
            refine (parse_det (showB ⟨na, ta, va⟩) v4 (by have := HZ1.out; omega)).mono ?_
            rintro e v5 ⟨u5, rfl, hu, hx⟩
            rw [HT5.out, HN6.out]
            rw [HT5.out] at hu
            obtain ⟨xn, xt, xv⟩ := T5
            obtain ⟨A5, m5, k5, rfl, _⟩ := id hu
            have hb5 := heap_alloc_new v5 (.cells #[.string xn, .bool xt, .slice A5 m5 k5] 24 (0, 0))
            have hx5 := hx.trans (Ext.alloc v5 (.cells #[.string xn, .bool xt, .slice A5 m5 k5] 24))
            have hu5 := hu.ext (Ext.alloc v5 (.cells #[.string xn, .bool xt, .slice A5 m5 k5] 24))
            simp only [tmV]
            go_upto_region 4 with fail
            generalize v5.alloc (.cells #[.string xn, .bool xt, .slice A5 m5 k5] 24) = v6 at hb5 hx5 hu5 ⊢
            generalize v5.heap.size = p5 at hb5 ⊢
            have HX6 := Lib.hid (HX4.out.trans hx5)
            have HB6 := Lib.hid hb5
            have HU6 := Lib.hid hu5
            clear hb5 hx5 hu5 hu hx
            go_wp2_with fail
            refine (parse_det s v6 (by omega)).mono ?_
            rintro e v7 ⟨u7, rfl, hu, hx⟩
            rw [HT7.out, HN8.out]
            rw [HT7.out] at hu
            obtain ⟨yn, yt, yv⟩ := T7
            obtain ⟨A7, m7, k7, rfl, hm7, _⟩ := id hu
            have hb7 := heap_alloc_new v7 (.cells #[.string yn, .bool yt, .slice A7 m7 k7] 24 (0, 0))
            have hx7 := hx.trans (Ext.alloc v7 (.cells #[.string yn, .bool yt, .slice A7 m7 k7] 24))
            have hu7 := hu.ext (Ext.alloc v7 (.cells #[.string yn, .bool yt, .slice A7 m7 k7] 24))
            simp only [tmV]
            go_upto_region 5 with fail
            generalize v7.alloc (.cells #[.string yn, .bool yt, .slice A7 m7 k7] 24) = v8 at hb7 hx7 hu7 ⊢
            generalize v7.heap.size = p7 at hb7 ⊢
            have HX8 := Lib.hid (HX6.out.trans hx7)
            have HB8 := Lib.hid ((Cm.of_ext hx7).cells _ _ _ _ HB6.out)
            have HU8 := Lib.hid (HU6.out.ext hx7)
            have HC8 := Lib.hid hb7
            have HV8 := Lib.hid hu7
            have HM7 := Lib.hid hm7
            clear hb7 hx7 hu7 hu hx HB6 HU6 hm7
            obtain ⟨e0, e1, e2⟩ := tm_cells HC8.out (Ext.refl _)
            go_wp2_with fail
            refine (show_any ⟨yn, yt, yv⟩ (.slice A7 m7 k7) v8 HV8.out HO7.out).mono ?_
            rintro e v9 ⟨t2, rfl, ht2, hx⟩
            obtain rfl : t2 = showB ⟨yn, yt, yv⟩ := bytes_ext (by rw [ht2, showB_list])
            have HX9 := Lib.hid hx
            clear hx ht2 e0 e1 e2
            go_wp2_with fail
            refine (parse_det (showB ⟨yn, yt, yv⟩) v9 (by have := HZ2.out; omega)).mono ?_
            rintro e v10 ⟨u9, rfl, hu, hx⟩
            rw [HT9.out, HN10.out]
            rw [HT9.out] at hu
            obtain ⟨zn, zt, zv⟩ := T9
            obtain ⟨A9, m9, k9, rfl, _⟩ := id hu
            have hb9 := heap_alloc_new v10 (.cells #[.string zn, .bool zt, .slice A9 m9 k9] 24 (0, 0))
            have hx9 := hx.trans (Ext.alloc v10 (.cells #[.string zn, .bool zt, .slice A9 m9 k9] 24))
            have hu9 := hu.ext (Ext.alloc v10 (.cells #[.string zn, .bool zt, .slice A9 m9 k9] 24))
            simp only [tmV]
            go_upto_region 6 with fail
            generalize v10.alloc (.cells #[.string zn, .bool zt, .slice A9 m9 k9] 24) = v11 at hb9 hx9 hu9 ⊢
            generalize v10.heap.size = p9 at hb9 ⊢
            have HX11 := Lib.hid (HX8.out.trans (HX9.out.trans hx9))
            have HP11 := Lib.hid ((Cm.of_ext HX11.out).cells _ _ _ _ HP.out)
            have HA11 := Lib.hid (HA.out.ext (HX.out.trans HX11.out))
            have HB11 := Lib.hid ((Cm.of_ext (HX9.out.trans hx9)).cells _ _ _ _ HB8.out)
            have HU11 := Lib.hid (HU8.out.ext (HX9.out.trans hx9))
            have HC11 := Lib.hid ((Cm.of_ext (HX9.out.trans hx9)).cells _ _ _ _ HC8.out)
            have HV11 := Lib.hid (HV8.out.ext (HX9.out.trans hx9))
            have HD11 := Lib.hid hb9
            have HW11 := Lib.hid hu9
            clear hb9 hx9 hu9 hu hx HB8 HU8 HC8 HV8 HX4 HX6 HX8 HX9 HX3
            obtain ⟨d0, d1, d2⟩ := tm_cells HP11.out (Ext.refl _)
            go_wp2_with fail
            refine (right_term ⟨na, ta, va⟩ (.slice A n c) v11 HA11.out HAO.out).mono ?_
            rintro e v12 ⟨rfl, hx⟩
            rw [HRT.out]
            have HY := Lib.hid hx
            clear hx d0 d1 d2
            rename World => vy
            obtain ⟨d0, d1, d2⟩ := tm_cells HP11.out HY.out
            obtain ⟨f0, f1, f2⟩ := tm_cells HB11.out HY.out
            go_wp2_with fail
            refine (tsame_any ⟨na, ta, va⟩ ⟨xn, xt, xv⟩ (.slice A n c) (.slice A5 m5 k5) vy (HA11.out.ext HY.out) (HU11.out.ext HY.out)).mono ?_
            rintro e v13 ⟨rfl, hx⟩
            rw [HSE.out]
            have HZ := Lib.hid (HY.out.trans hx)
            clear hx d0 d1 d2 f0 f1 f2 HY
            have HY := HZ
            clear HZ
            rename World => vz
            obtain ⟨d0, d1, d2⟩ := tm_cells HC11.out HY.out
            go_wp2_with fail
            refine (right_term ⟨yn, yt, yv⟩ (.slice A7 m7 k7) vz (HV11.out.ext HY.out) HO7.out).mono ?_
            rintro e v14 ⟨rfl, hx⟩
            rw [HR7.out]
            have HY14 := Lib.hid (HY.out.trans hx)
            clear hx d0 d1 d2
            obtain ⟨d0, d1, d2⟩ := tm_cells HC11.out HY14.out
            obtain ⟨f0, f1, f2⟩ := tm_cells HD11.out HY14.out
            go_wp2_with fail
            refine (tsame_any ⟨yn, yt, yv⟩ ⟨zn, zt, zv⟩ (.slice A7 m7 k7) (.slice A9 m9 k9) v14 (HV11.out.ext HY14.out) (HW11.out.ext HY14.out)).mono ?_
            rintro e v15 ⟨rfl, hx⟩
            rw [HS7.out]
            have HY15 := Lib.hid (HY14.out.trans hx)
            clear hx d0 d1 d2 f0 f1 f2
            obtain ⟨d0, d1, d2⟩ := tm_cells HC11.out HY15.out
            go_wp2_with fail
            refine (show_any ⟨yn, yt, yv⟩ (.slice A7 m7 k7) v15 (HV11.out.ext HY15.out) HO7.out).mono ?_
            rintro e v16 ⟨t3, rfl, ht3, hx⟩
            obtain rfl : t3 = showB ⟨yn, yt, yv⟩ := bytes_ext (by rw [ht3, showB_list])
            have HY16 := Lib.hid (HY15.out.trans hx)
            clear hx ht3 d0 d1 d2
            obtain ⟨sb, hsb⟩ : ∃ x, showB ⟨yn, yt, yv⟩ = x := ⟨_, rfl⟩
            have HSB := Lib.hid hsb
            have hsz : (sb.size : Int) + 2 = (s.size : Int) := by have := HSH.out.2; rw [hsb] at this; omega
            have hne : (sb.toList == s.toList) = false := by
              rw [eq_dec]
              refine decide_eq_false fun e => ?_
              rw [e] at hsz
              omega
            rw [hsb]
            obtain rfl : m7 = 1 := by rw [← HM7.out]; exact HSH.out.1
            clear hsb
            obtain ⟨d0, d1, d2⟩ := tm_cells HC11.out HY16.out
            go_wp2_with fail
            refine (show_any ⟨yn, yt, yv⟩ (.slice A7 1 k7) v16 (HV11.out.ext HY16.out) HO7.out).mono ?_
            rintro e v17 ⟨t4, rfl, ht4, hx⟩
            obtain rfl : t4 = sb := by rw [← HSB.out]; exact bytes_ext (by rw [ht4, showB_list])
            have HY17 := Lib.hid (HY16.out.trans hx)
            clear hx ht4 d0 d1 d2
            go_wp2_with fail
            refine (known_any _).mono ?_
            rintro e v99 ⟨rfl, hx9⟩
            go_wp2_with fail
            go_ret
            exact ⟨rfl, (HX.out.trans (HX11.out.trans HY17.out)).trans hx9⟩
      | false =>
        have HRT := Lib.hid hrt
        have h56 := parN_none (parse_noshow hrt)
        obtain ⟨T5, hT5⟩ : ∃ T, parT (showB ⟨na, ta, va⟩) = T := ⟨_, rfl⟩
        have HT5 := Lib.hid hT5
        have HN6 := Lib.hid h56.2
        clear hT5 h56 hrt
        cases hps : parseB s with
        | none =>
          have h78 := parN_none hps
          have h90 := parN_none (parse_noshow (t := parT s) (by rw [h78.1]; exact right_noname word_empty))
          obtain ⟨T7, hT7⟩ : ∃ T, parT s = T := ⟨_, rfl⟩
          have HT7 := Lib.hid hT7
          have HN8 := Lib.hid h78.2
          rw [hT7] at h90 HZ2 HO7
          obtain ⟨T9, hT9⟩ : ∃ T, parT (showB T7) = T := ⟨_, rfl⟩
          have HT9 := Lib.hid hT9
          have HN10 := Lib.hid h90.2
          clear hT7 hT9 h78 h90 hps
          go_wp2_with fail
          refine (show_any ⟨na, ta, va⟩ (.slice A n c) v3 (HA.out.ext (HX.out.trans HX3.out)) HAO.out).mono ?_
          rintro e v4 ⟨t1, rfl, ht1, hx⟩
          obtain rfl : t1 = showB ⟨na, ta, va⟩ := bytes_ext (by rw [ht1, showB_list])
          have HX4 := Lib.hid (HX3.out.trans hx)
          clear hx ht1 d0 d1 d2
          go_wp2_with fail
          refine (parse_det (showB ⟨na, ta, va⟩) v4 (by have := HZ1.out; omega)).mono ?_
          rintro e v5 ⟨u5, rfl, hu, hx⟩
          rw [HT5.out, HN6.out]
          rw [HT5.out] at hu
          obtain ⟨xn, xt, xv⟩ := T5
          obtain ⟨A5, m5, k5, rfl, _⟩ := id hu
          have hb5 := heap_alloc_new v5 (.cells #[.string xn, .bool xt, .slice A5 m5 k5] 24 (0, 0))
          have hx5 := hx.trans (Ext.alloc v5 (.cells #[.string xn, .bool xt, .slice A5 m5 k5] 24))
          have hu5 := hu.ext (Ext.alloc v5 (.cells #[.string xn, .bool xt, .slice A5 m5 k5] 24))
          simp only [tmV]
          go_upto_region 4 with fail
          generalize v5.alloc (.cells #[.string xn, .bool xt, .slice A5 m5 k5] 24) = v6 at hb5 hx5 hu5 ⊢
          generalize v5.heap.size = p5 at hb5 ⊢
          have HX6 := Lib.hid (HX4.out.trans hx5)
          have HB6 := Lib.hid hb5
          have HU6 := Lib.hid hu5
          clear hb5 hx5 hu5 hu hx
          go_wp2_with fail
          refine (parse_det s v6 (by omega)).mono ?_
          rintro e v7 ⟨u7, rfl, hu, hx⟩
          rw [HT7.out, HN8.out]
          rw [HT7.out] at hu
          obtain ⟨yn, yt, yv⟩ := T7
          obtain ⟨A7, m7, k7, rfl, hm7, _⟩ := id hu
          have hb7 := heap_alloc_new v7 (.cells #[.string yn, .bool yt, .slice A7 m7 k7] 24 (0, 0))
          have hx7 := hx.trans (Ext.alloc v7 (.cells #[.string yn, .bool yt, .slice A7 m7 k7] 24))
          have hu7 := hu.ext (Ext.alloc v7 (.cells #[.string yn, .bool yt, .slice A7 m7 k7] 24))
          simp only [tmV]
          go_upto_region 5 with fail
          generalize v7.alloc (.cells #[.string yn, .bool yt, .slice A7 m7 k7] 24) = v8 at hb7 hx7 hu7 ⊢
          generalize v7.heap.size = p7 at hb7 ⊢
          have HX8 := Lib.hid (HX6.out.trans hx7)
          have HB8 := Lib.hid ((Cm.of_ext hx7).cells _ _ _ _ HB6.out)
          have HU8 := Lib.hid (HU6.out.ext hx7)
          have HC8 := Lib.hid hb7
          have HV8 := Lib.hid hu7
          have HM7 := Lib.hid hm7
          clear hb7 hx7 hu7 hu hx HB6 HU6 hm7
          obtain ⟨e0, e1, e2⟩ := tm_cells HC8.out (Ext.refl _)
          go_wp2_with fail
          refine (show_any ⟨yn, yt, yv⟩ (.slice A7 m7 k7) v8 HV8.out HO7.out).mono ?_
          rintro e v9 ⟨t2, rfl, ht2, hx⟩
          obtain rfl : t2 = showB ⟨yn, yt, yv⟩ := bytes_ext (by rw [ht2, showB_list])
          have HX9 := Lib.hid hx
          clear hx ht2 e0 e1 e2
          go_wp2_with fail
          refine (parse_det (showB ⟨yn, yt, yv⟩) v9 (by have := HZ2.out; omega)).mono ?_
          rintro e v10 ⟨u9, rfl, hu, hx⟩
          rw [HT9.out, HN10.out]
          rw [HT9.out] at hu
          obtain ⟨zn, zt, zv⟩ := T9
          obtain ⟨A9, m9, k9, rfl, _⟩ := id hu
          have hb9 := heap_alloc_new v10 (.cells #[.string zn, .bool zt, .slice A9 m9 k9] 24 (0, 0))
          have hx9 := hx.trans (Ext.alloc v10 (.cells #[.string zn, .bool zt, .slice A9 m9 k9] 24))
          have hu9 := hu.ext (Ext.alloc v10 (.cells #[.string zn, .bool zt, .slice A9 m9 k9] 24))
          simp only [tmV]
          go_upto_region 6 with fail
          generalize v10.alloc (.cells #[.string zn, .bool zt, .slice A9 m9 k9] 24) = v11 at hb9 hx9 hu9 ⊢
          generalize v10.heap.size = p9 at hb9 ⊢
          have HX11 := Lib.hid (HX8.out.trans (HX9.out.trans hx9))
          have HP11 := Lib.hid ((Cm.of_ext HX11.out).cells _ _ _ _ HP.out)
          have HA11 := Lib.hid (HA.out.ext (HX.out.trans HX11.out))
          have HB11 := Lib.hid ((Cm.of_ext (HX9.out.trans hx9)).cells _ _ _ _ HB8.out)
          have HU11 := Lib.hid (HU8.out.ext (HX9.out.trans hx9))
          have HC11 := Lib.hid ((Cm.of_ext (HX9.out.trans hx9)).cells _ _ _ _ HC8.out)
          have HV11 := Lib.hid (HV8.out.ext (HX9.out.trans hx9))
          have HD11 := Lib.hid hb9
          have HW11 := Lib.hid hu9
          clear hb9 hx9 hu9 hu hx HB8 HU8 HC8 HV8 HX4 HX6 HX8 HX9 HX3
          obtain ⟨d0, d1, d2⟩ := tm_cells HP11.out (Ext.refl _)
          go_wp2_with fail
          refine (right_term ⟨na, ta, va⟩ (.slice A n c) v11 HA11.out HAO.out).mono ?_
          rintro e v12 ⟨rfl, hx⟩
          rw [HRT.out]
          have HY := Lib.hid hx
          clear hx d0 d1 d2
          rename World => vy
          go_wp2_with fail
          refine (known_any _).mono ?_
          rintro e v99 ⟨rfl, hx9⟩
          go_wp2_with fail
          go_ret
          exact ⟨rfl, (HX.out.trans (HX11.out.trans HY.out)).trans hx9⟩
        | some V =>
          have h78 := parN_some hps
          have hbl := back_law hps
          have h90 := parN_some (parse_show hbl.1)
          rw [← h78.1] at h90 hbl
          obtain ⟨T7, hT7⟩ : ∃ T, parT s = T := ⟨_, rfl⟩
          have HT7 := Lib.hid hT7
          have HN8 := Lib.hid h78.2
          rw [hT7] at h90 HZ2 HO7 hbl
          have HR7 := Lib.hid hbl.1
          have HS7 : Hid (sameT T7 (parT (showB T7)) = true) := Lib.hid (by rw [h90.1]; exact sameT_refl _)
          obtain ⟨T9, hT9⟩ : ∃ T, parT (showB T7) = T := ⟨_, rfl⟩
          have HT9 := Lib.hid hT9
          have HN10 := Lib.hid h90.2
          rw [hT9] at HS7
          rcases hbl.2 with hsh | hsh
          · have HSH := Lib.hid hsh
            clear hT7 hT9 h78 h90 hps hbl hsh
            go_wp2_with fail
            refine (show_any ⟨na, ta, va⟩ (.slice A n c) v3 (HA.out.ext (HX.out.trans HX3.out)) HAO.out).mono ?_
            rintro e v4 ⟨t1, rfl, ht1, hx⟩
            obtain rfl : t1 = showB ⟨na, ta, va⟩ := bytes_ext (by rw [ht1, showB_list])
            have HX4 := Lib.hid (HX3.out.trans hx)
            clear hx ht1 d0 d1 d2
            go_wp2_with fail
            refine (parse_det (showB ⟨na, ta, va⟩) v4 (by have := HZ1.out; omega)).mono ?_
            rintro e v5 ⟨u5, rfl, hu, hx⟩
            rw [HT5.out, HN6.out]
            rw [HT5.out] at hu
            obtain ⟨xn, xt, xv⟩ := T5
            obtain ⟨A5, m5, k5, rfl, _⟩ := id hu
            have hb5 := heap_alloc_new v5 (.cells #[.string xn, .bool xt, .slice A5 m5 k5] 24 (0, 0))
            have hx5 := hx.trans (Ext.alloc v5 (.cells #[.string xn, .bool xt, .slice A5 m5 k5] 24))
            have hu5 := hu.ext (Ext.alloc v5 (.cells #[.string xn, .bool xt, .slice A5 m5 k5] 24))
            simp only [tmV]
            go_upto_region 4 with fail
            generalize v5.alloc (.cells #[.string xn, .bool xt, .slice A5 m5 k5] 24) = v6 at hb5 hx5 hu5 ⊢
            generalize v5.heap.size = p5 at hb5 ⊢
            have HX6 := Lib.hid (HX4.out.trans hx5)
            have HB6 := Lib.hid hb5
            have HU6 := Lib.hid hu5
            clear hb5 hx5 hu5 hu hx
            go_wp2_with fail
            refine (parse_det s v6 (by omega)).mono ?_
            rintro e v7 ⟨u7, rfl, hu, hx⟩
            rw [HT7.out, HN8.out]
            rw [HT7.out] at hu
            obtain ⟨yn, yt, yv⟩ := T7
            obtain ⟨A7, m7, k7, rfl, hm7, _⟩ := id hu
            have hb7 := heap_alloc_new v7 (.cells #[.string yn, .bool yt, .slice A7 m7 k7] 24 (0, 0))
            have hx7 := hx.trans (Ext.alloc v7 (.cells #[.string yn, .bool yt, .slice A7 m7 k7] 24))
            have hu7 := hu.ext (Ext.alloc v7 (.cells #[.string yn, .bool yt, .slice A7 m7 k7] 24))
            simp only [tmV]
            go_upto_region 5 with fail
            generalize v7.alloc (.cells #[.string yn, .bool yt, .slice A7 m7 k7] 24) = v8 at hb7 hx7 hu7 ⊢
            generalize v7.heap.size = p7 at hb7 ⊢
            have HX8 := Lib.hid (HX6.out.trans hx7)
            have HB8 := Lib.hid ((Cm.of_ext hx7).cells _ _ _ _ HB6.out)
            have HU8 := Lib.hid (HU6.out.ext hx7)
            have HC8 := Lib.hid hb7
            have HV8 := Lib.hid hu7
            have HM7 := Lib.hid hm7
            clear hb7 hx7 hu7 hu hx HB6 HU6 hm7
            obtain ⟨e0, e1, e2⟩ := tm_cells HC8.out (Ext.refl _)
            go_wp2_with fail
            refine (show_any ⟨yn, yt, yv⟩ (.slice A7 m7 k7) v8 HV8.out HO7.out).mono ?_
            rintro e v9 ⟨t2, rfl, ht2, hx⟩
            obtain rfl : t2 = showB ⟨yn, yt, yv⟩ := bytes_ext (by rw [ht2, showB_list])
            have HX9 := Lib.hid hx
            clear hx ht2 e0 e1 e2
            go_wp2_with fail
            refine (parse_det (showB ⟨yn, yt, yv⟩) v9 (by have := HZ2.out; omega)).mono ?_
            rintro e v10 ⟨u9, rfl, hu, hx⟩
            rw [HT9.out, HN10.out]
            rw [HT9.out] at hu
            obtain ⟨zn, zt, zv⟩ := T9
            obtain ⟨A9, m9, k9, rfl, _⟩ := id hu
            have hb9 := heap_alloc_new v10 (.cells #[.string zn, .bool zt, .slice A9 m9 k9] 24 (0, 0))
            have hx9 := hx.trans (Ext.alloc v10 (.cells #[.string zn, .bool zt, .slice A9 m9 k9] 24))
            have hu9 := hu.ext (Ext.alloc v10 (.cells #[.string zn, .bool zt, .slice A9 m9 k9] 24))
            simp only [tmV]
            go_upto_region 6 with fail
            generalize v10.alloc (.cells #[.string zn, .bool zt, .slice A9 m9 k9] 24) = v11 at hb9 hx9 hu9 ⊢
            generalize v10.heap.size = p9 at hb9 ⊢
            have HX11 := Lib.hid (HX8.out.trans (HX9.out.trans hx9))
            have HP11 := Lib.hid ((Cm.of_ext HX11.out).cells _ _ _ _ HP.out)
            have HA11 := Lib.hid (HA.out.ext (HX.out.trans HX11.out))
            have HB11 := Lib.hid ((Cm.of_ext (HX9.out.trans hx9)).cells _ _ _ _ HB8.out)
            have HU11 := Lib.hid (HU8.out.ext (HX9.out.trans hx9))
            have HC11 := Lib.hid ((Cm.of_ext (HX9.out.trans hx9)).cells _ _ _ _ HC8.out)
            have HV11 := Lib.hid (HV8.out.ext (HX9.out.trans hx9))
            have HD11 := Lib.hid hb9
            have HW11 := Lib.hid hu9
            clear hb9 hx9 hu9 hu hx HB8 HU8 HC8 HV8 HX4 HX6 HX8 HX9 HX3
            obtain ⟨d0, d1, d2⟩ := tm_cells HP11.out (Ext.refl _)
            go_wp2_with fail
            refine (right_term ⟨na, ta, va⟩ (.slice A n c) v11 HA11.out HAO.out).mono ?_
            rintro e v12 ⟨rfl, hx⟩
            rw [HRT.out]
            have HY := Lib.hid hx
            clear hx d0 d1 d2
            rename World => vy
            obtain ⟨d0, d1, d2⟩ := tm_cells HC11.out HY.out
            go_wp2_with fail
            refine (right_term ⟨yn, yt, yv⟩ (.slice A7 m7 k7) vy (HV11.out.ext HY.out) HO7.out).mono ?_
            rintro e v14 ⟨rfl, hx⟩
            rw [HR7.out]
            have HY14 := Lib.hid (HY.out.trans hx)
            clear hx d0 d1 d2
            obtain ⟨d0, d1, d2⟩ := tm_cells HC11.out HY14.out
            obtain ⟨f0, f1, f2⟩ := tm_cells HD11.out HY14.out
            go_wp2_with fail
            refine (tsame_any ⟨yn, yt, yv⟩ ⟨zn, zt, zv⟩ (.slice A7 m7 k7) (.slice A9 m9 k9) v14 (HV11.out.ext HY14.out) (HW11.out.ext HY14.out)).mono ?_
            rintro e v15 ⟨rfl, hx⟩
            rw [HS7.out]
            have HY15 := Lib.hid (HY14.out.trans hx)
            clear hx d0 d1 d2 f0 f1 f2
            obtain ⟨d0, d1, d2⟩ := tm_cells HC11.out HY15.out
            go_wp2_with fail
            refine (show_any ⟨yn, yt, yv⟩ (.slice A7 m7 k7) v15 (HV11.out.ext HY15.out) HO7.out).mono ?_
            rintro e v16 ⟨t3, rfl, ht3, hx⟩
            obtain rfl : t3 = showB ⟨yn, yt, yv⟩ := bytes_ext (by rw [ht3, showB_list])
            have HY16 := Lib.hid (HY15.out.trans hx)
            clear hx ht3 d0 d1 d2
            rw [HSH.out]
            go_wp2_with fail
            refine (known_any _).mono ?_
            rintro e v99 ⟨rfl, hx9⟩
            go_wp2_with fail
            go_ret
            exact ⟨rfl, (HX.out.trans (HX11.out.trans HY16.out)).trans hx9⟩
          · have HSH := Lib.hid hsh
            clear hT7 hT9 h78 h90 hps hbl hsh
            go_wp2_with fail
            refine (show_any ⟨na, ta, va⟩ (.slice A n c) v3 (HA.out.ext (HX.out.trans HX3.out)) HAO.out).mono ?_
            rintro e v4 ⟨t1, rfl, ht1, hx⟩
            obtain rfl : t1 = showB ⟨na, ta, va⟩ := bytes_ext (by rw [ht1, showB_list])
            have HX4 := Lib.hid (HX3.out.trans hx)
            clear hx ht1 d0 d1 d2
            go_wp2_with fail
            refine (parse_det (showB ⟨na, ta, va⟩) v4 (by have := HZ1.out; omega)).mono ?_
            rintro e v5 ⟨u5, rfl, hu, hx⟩
            rw [HT5.out, HN6.out]
            rw [HT5.out] at hu
            obtain ⟨xn, xt, xv⟩ := T5
            obtain ⟨A5, m5, k5, rfl, _⟩ := id hu
            have hb5 := heap_alloc_new v5 (.cells #[.string xn, .bool xt, .slice A5 m5 k5] 24 (0, 0))
            have hx5 := hx.trans (Ext.alloc v5 (.cells #[.string xn, .bool xt, .slice A5 m5 k5] 24))
            have hu5 := hu.ext (Ext.alloc v5 (.cells #[.string xn, .bool xt, .slice A5 m5 k5] 24))
            simp only [tmV]
            go_upto_region 4 with fail
            generalize v5.alloc (.cells #[.string xn, .bool xt, .slice A5 m5 k5] 24) = v6 at hb5 hx5 hu5 ⊢
            generalize v5.heap.size = p5 at hb5 ⊢
            have HX6 := Lib.hid (HX4.out.trans hx5)
            have HB6 := Lib.hid hb5
            have HU6 := Lib.hid hu5
            clear hb5 hx5 hu5 hu hx
            go_wp2_with fail
            refine (parse_det s v6 (by omega)).mono ?_
            rintro e v7 ⟨u7, rfl, hu, hx⟩
            rw [HT7.out, HN8.out]
            rw [HT7.out] at hu
            obtain ⟨yn, yt, yv⟩ := T7
            obtain ⟨A7, m7, k7, rfl, hm7, _⟩ := id hu
            have hb7 := heap_alloc_new v7 (.cells #[.string yn, .bool yt, .slice A7 m7 k7] 24 (0, 0))
            have hx7 := hx.trans (Ext.alloc v7 (.cells #[.string yn, .bool yt, .slice A7 m7 k7] 24))
            have hu7 := hu.ext (Ext.alloc v7 (.cells #[.string yn, .bool yt, .slice A7 m7 k7] 24))
            simp only [tmV]
            go_upto_region 5 with fail
            generalize v7.alloc (.cells #[.string yn, .bool yt, .slice A7 m7 k7] 24) = v8 at hb7 hx7 hu7 ⊢
            generalize v7.heap.size = p7 at hb7 ⊢
            have HX8 := Lib.hid (HX6.out.trans hx7)
            have HB8 := Lib.hid ((Cm.of_ext hx7).cells _ _ _ _ HB6.out)
            have HU8 := Lib.hid (HU6.out.ext hx7)
            have HC8 := Lib.hid hb7
            have HV8 := Lib.hid hu7
            have HM7 := Lib.hid hm7
            clear hb7 hx7 hu7 hu hx HB6 HU6 hm7
            obtain ⟨e0, e1, e2⟩ := tm_cells HC8.out (Ext.refl _)
            go_wp2_with fail
            refine (show_any ⟨yn, yt, yv⟩ (.slice A7 m7 k7) v8 HV8.out HO7.out).mono ?_
            rintro e v9 ⟨t2, rfl, ht2, hx⟩
            obtain rfl : t2 = showB ⟨yn, yt, yv⟩ := bytes_ext (by rw [ht2, showB_list])
            have HX9 := Lib.hid hx
            clear hx ht2 e0 e1 e2
            go_wp2_with fail
            refine (parse_det (showB ⟨yn, yt, yv⟩) v9 (by have := HZ2.out; omega)).mono ?_
            rintro e v10 ⟨u9, rfl, hu, hx⟩
            rw [HT9.out, HN10.out]
            rw [HT9.out] at hu
            obtain ⟨zn, zt, zv⟩ := T9
            obtain ⟨A9, m9, k9, rfl, _⟩ := id hu
            have hb9 := heap_alloc_new v10 (.cells #[.string zn, .bool zt, .slice A9 m9 k9] 24 (0, 0))
            have hx9 := hx.trans (Ext.alloc v10 (.cells #[.string zn, .bool zt, .slice A9 m9 k9] 24))
            have hu9 := hu.ext (Ext.alloc v10 (.cells #[.string zn, .bool zt, .slice A9 m9 k9] 24))
            simp only [tmV]
            go_upto_region 6 with fail
            generalize v10.alloc (.cells #[.string zn, .bool zt, .slice A9 m9 k9] 24) = v11 at hb9 hx9 hu9 ⊢
            generalize v10.heap.size = p9 at hb9 ⊢
            have HX11 := Lib.hid (HX8.out.trans (HX9.out.trans hx9))
            have HP11 := Lib.hid ((Cm.of_ext HX11.out).cells _ _ _ _ HP.out)
            have HA11 := Lib.hid (HA.out.ext (HX.out.trans HX11.out))
            have HB11 := Lib.hid ((Cm.of_ext (HX9.out.trans hx9)).cells _ _ _ _ HB8.out)
            have HU11 := Lib.hid (HU8.out.ext (HX9.out.trans hx9))
            have HC11 := Lib.hid ((Cm.of_ext (HX9.out.trans hx9)).cells _ _ _ _ HC8.out)
            have HV11 := Lib.hid (HV8.out.ext (HX9.out.trans hx9))
            have HD11 := Lib.hid hb9
            have HW11 := Lib.hid hu9
            clear hb9 hx9 hu9 hu hx HB8 HU8 HC8 HV8 HX4 HX6 HX8 HX9 HX3
            obtain ⟨d0, d1, d2⟩ := tm_cells HP11.out (Ext.refl _)
            go_wp2_with fail
            refine (right_term ⟨na, ta, va⟩ (.slice A n c) v11 HA11.out HAO.out).mono ?_
            rintro e v12 ⟨rfl, hx⟩
            rw [HRT.out]
            have HY := Lib.hid hx
            clear hx d0 d1 d2
            rename World => vy
            obtain ⟨d0, d1, d2⟩ := tm_cells HC11.out HY.out
            go_wp2_with fail
            refine (right_term ⟨yn, yt, yv⟩ (.slice A7 m7 k7) vy (HV11.out.ext HY.out) HO7.out).mono ?_
            rintro e v14 ⟨rfl, hx⟩
            rw [HR7.out]
            have HY14 := Lib.hid (HY.out.trans hx)
            clear hx d0 d1 d2
            obtain ⟨d0, d1, d2⟩ := tm_cells HC11.out HY14.out
            obtain ⟨f0, f1, f2⟩ := tm_cells HD11.out HY14.out
            go_wp2_with fail
            refine (tsame_any ⟨yn, yt, yv⟩ ⟨zn, zt, zv⟩ (.slice A7 m7 k7) (.slice A9 m9 k9) v14 (HV11.out.ext HY14.out) (HW11.out.ext HY14.out)).mono ?_
            rintro e v15 ⟨rfl, hx⟩
            rw [HS7.out]
            have HY15 := Lib.hid (HY14.out.trans hx)
            clear hx d0 d1 d2 f0 f1 f2
            obtain ⟨d0, d1, d2⟩ := tm_cells HC11.out HY15.out
            go_wp2_with fail
            refine (show_any ⟨yn, yt, yv⟩ (.slice A7 m7 k7) v15 (HV11.out.ext HY15.out) HO7.out).mono ?_
            rintro e v16 ⟨t3, rfl, ht3, hx⟩
            obtain rfl : t3 = showB ⟨yn, yt, yv⟩ := bytes_ext (by rw [ht3, showB_list])
            have HY16 := Lib.hid (HY15.out.trans hx)
            clear hx ht3 d0 d1 d2
            obtain ⟨sb, hsb⟩ : ∃ x, showB ⟨yn, yt, yv⟩ = x := ⟨_, rfl⟩
            have HSB := Lib.hid hsb
            have hsz : (sb.size : Int) + 2 = (s.size : Int) := by have := HSH.out.2; rw [hsb] at this; omega
            have hne : (sb.toList == s.toList) = false := by
              rw [eq_dec]
              refine decide_eq_false fun e => ?_
              rw [e] at hsz
              omega
            rw [hsb]
            obtain rfl : m7 = 1 := by rw [← HM7.out]; exact HSH.out.1
            clear hsb
            obtain ⟨d0, d1, d2⟩ := tm_cells HC11.out HY16.out
            go_wp2_with fail
            refine (show_any ⟨yn, yt, yv⟩ (.slice A7 1 k7) v16 (HV11.out.ext HY16.out) HO7.out).mono ?_
            rintro e v17 ⟨t4, rfl, ht4, hx⟩
            obtain rfl : t4 = sb := by rw [← HSB.out]; exact bytes_ext (by rw [ht4, showB_list])
            have HY17 := Lib.hid (HY16.out.trans hx)
            clear hx ht4 d0 d1 d2
            go_wp2_with fail
            refine (known_any _).mono ?_
            rintro e v99 ⟨rfl, hx9⟩
            go_wp2_with fail
            go_ret
            exact ⟨rfl, (HX.out.trans (HX11.out.trans HY17.out)).trans hx9⟩
    · have h300I : (300 : Int) < (s.size : Int) := by omega
      clear h300
      go_wp2_with fail
      refine (known_any _).mono ?_
      rintro e v99 ⟨rfl, hx9⟩
      go_wp2_with fail
      go_ret
      exact ⟨rfl, (HX.out.trans HX3.out).trans hx9⟩
end Go.Proofs.Ytccjbmmhdbainaa
