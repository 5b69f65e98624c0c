/- IndexLast walked. -/
import Derived.Test.YtebcjpapmjebgaaIdxP
import Derived.Deep.CutRange
namespace Go.Proofs.Ytebcjpapmjebgaa
open Go.RowKit Sets
set_option linter.unusedVariables false
set_option linter.unusedSectionVars false
set_option linter.unusedSimpArgs false

theorem sizeM_perm {A B : Mod} (h : A.Perm B) : sizeM A = sizeM B := by
  unfold sizeM
  induction h with
  | nil => rfl
  | cons x h ih => simp only [List.map_cons, List.sum_cons, ih]
  | swap x y l => simp only [List.map_cons, List.sum_cons]; omega
  | trans _ _ h1 h2 => exact h1.trans h2
theorem size_set (M : Mod) (key : ByteArray) (l : List Lab) : sizeM (setM M key l) = sizeM (dropM M key) + (srtL l).length := by
  unfold setM
  rw [sizeM_perm (insBy_perm _ _ _)]
  simp only [sizeM, List.map_cons, List.sum_cons]
  omega
theorem lkM_cons (a : Ent) (M : Mod) (key : ByteArray) : lkM (a :: M) key = if a.1 = key then some a.2 else lkM M key := by
  unfold lkM
  by_cases h : a.1 = key
  · rw [if_pos h, List.find?_cons_of_pos (by simp [h])]
    rfl
  · rw [if_neg h, List.find?_cons_of_neg (by simp [h])]
theorem size_drop (key : ByteArray) : ∀ M : Mod, Sd (keysM M) → sizeM M = sizeM (dropM M key) + ((lkM M key).getD []).length
  | [], _ => rfl
  | a :: M, h => by
    obtain ⟨h1, h2⟩ := List.pairwise_cons.1 h
    have ih := size_drop key M h2
    rw [lkM_cons]
    by_cases e : a.1 = key
    · rw [if_pos e]
      have hd : dropM (a :: M) key = M := by
        unfold dropM
        rw [List.filter_cons_of_neg (by simp [e]), List.filter_eq_self]
        intro p hp
        have := lt_ne (h1 _ (List.mem_map.2 ⟨p, hp, rfl⟩))
        rw [decide_eq_true_eq]
        exact fun e2 => this (e.trans e2.symm)
      rw [hd]
      simp only [sizeM, List.map_cons, List.sum_cons, Option.getD_some]
      omega
    · rw [if_neg e]
      have hd : dropM (a :: M) key = a :: dropM M key := by
        unfold dropM
        rw [List.filter_cons_of_pos (by simp [e])]
      rw [hd]
      simp only [sizeM, List.map_cons, List.sum_cons] at ih ⊢
      omega
theorem drop_set (M : Mod) (key : ByteArray) (l : List Lab) : dropM (setM M key l) key = dropM M key := by
  unfold setM insBy
  have h0 : dropM (dropM M key) key = dropM M key := by
    unfold dropM
    rw [List.filter_filter]
    congr 1
    funext p
    exact Bool.and_self _
  have h1 : ∀ A B : Mod, dropM (A ++ (key, srtL l) :: B) key = dropM (A ++ B) key := by
    intro A B
    unfold dropM
    rw [List.filter_append, List.filter_cons_of_neg (by simp), ← List.filter_append]
  rw [h1, List.takeWhile_append_dropWhile, h0]
theorem okM_r {key : ByteArray} {l : List Lab} (h : okM key l = true) : rightI l = true := by
  unfold okM at h
  rw [Bool.and_eq_true] at h
  exact h.2
theorem okM_srt {key : ByteArray} {l : List Lab} (h : okM key l = true) : okM key (srtL l) = true := by
  have hr := okM_r h
  unfold okM at h ⊢
  rw [right_perm (srtL_ok (right_good hr)).1]
  exact h
theorem srt_len {l : List Lab} (h : rightI l = true) : (srtL l).length = l.length := (srtL_ok (right_good h)).1.length_eq
theorem srt_srt {l : List Lab} (h : rightI l = true) : srtL (srtL l) = srtL l := by
  have hs := srtL_ok (right_good h)
  exact (srtL_eq (right_good (by rw [right_perm hs.1]; exact h)) (List.Perm.refl _) hs.2.2).symm
theorem lk_set_self {M : Mod} (h : GoodM M) {key : ByteArray} {l : List Lab} (hk : okM key l = true) : lkM (setM M key l) key = some (srtL l) := by
  rw [lk_set h hk]
  unfold updF
  simp
theorem find_gone (M : Mod) (key : ByteArray) (y : Lab) : hasB (findM (dropM M key) y) key = false := by
  rw [Bool.eq_false_iff]
  intro h
  rw [hasB_iff] at h
  unfold findM at h
  obtain ⟨p, hp, e⟩ := mem_keysM.1 h
  exact drop_ne p (List.mem_filter.1 hp).1 e
theorem lk_gone (M : Mod) (key : ByteArray) : (lkM (dropM M key) key).isSome = false := by
  rw [Bool.eq_false_iff]
  intro h
  rw [lk_is] at h
  obtain ⟨p, hp, e⟩ := mem_keysM.1 h
  exact drop_ne p hp e
theorem srt_lt {l : List Lab} (h : rightI l = true) {i : Nat} {a b : Lab} (ha : (srtL l)[i]? = some a) (hb : (srtL l)[i + 1]? = some b) : ltB a.1 b.1 = true := by
  have hs := (srtL_ok (right_good h)).2.1
  obtain ⟨h1, rfl⟩ := List.getElem?_eq_some_iff.1 ha
  obtain ⟨h2, rfl⟩ := List.getElem?_eq_some_iff.1 hb
  have := (List.pairwise_iff_getElem.1 hs) i (i + 1) (by rw [List.length_map]; omega) (by rw [List.length_map]; omega) (by omega)
  rwa [List.getElem_map, List.getElem_map] at this
theorem errM_no {key : ByteArray} {l : List Lab} (h : okM key l = false) : errM key l = 1 := by unfold errM; rw [h]; rfl
theorem errM_yes {key : ByteArray} {l : List Lab} (h : okM key l = true) : errM key l = 0 := by unfold errM; rw [if_pos h]
theorem putM_no {M : Mod} {key : ByteArray} {l : List Lab} (h : okM key l = false) : putM M key l = M := by unfold putM; rw [h]; rfl
theorem putM_yes {M : Mod} {key : ByteArray} {l : List Lab} (h : okM key l = true) : putM M key l = setM M key l := by unfold putM; rw [if_pos h]
theorem lsame_yes (u v : Value) (La Lb : List Lab) (w : World) (ha : Row labC w u La) (hb : Row labC w v Lb) (h : La = Lb) :
    Calls Try.prog 19 #[u, v] w fun e w' => e = .returned (.bool true) ∧ Ext w w' := by
  refine (same_any u v La Lb w ha hb).mono ?_
  rintro e w' ⟨rfl, hx⟩
  exact ⟨by rw [decide_eq_true h], hx⟩

set_option maxRecDepth 100000 in
set_option maxHeartbeats 8000000 in
theorem indexLast_any (v : Value) (xs : List IOp) (o : IOp) (w : World) (h : Row opC w v xs) (hok : ∀ o ∈ xs, IOpOk w o) (ho : IOpOk w o) :
    Calls Try.prog 5 #[v, opV o] w fun e w' => e = .returned (.bool true) ∧ Ext w w' := by
  have HROW := Lib.hid h
  have HOK1 := Lib.hid hok
  have HO := Lib.hid ho
  obtain ⟨A1, n1, c1, rfl, _⟩ := h
  obtain ⟨kind, key, u, ls⟩ := o
  obtain ⟨A, n, c, rfl, hn, hnc, hcm, hr⟩ := ho.row
  have HN : Hid (ls.length = n) := Lib.hid hn
  clear hok hr ho hn
  simp only [opV]
  go_enter Try.func5, Try.ntmps5
  go_wp2_with fail
  have hb := heap_alloc_new w (.cells #[.int .i64 kind, .string key, .slice A n c] 34 (0, 0))
  have hx1 := Ext.alloc w (.cells #[.int .i64 kind, .string key, .slice A n c] 34)
  generalize w.alloc (.cells #[.int .i64 kind, .string key, .slice A n c] 34) = w1 at hb hx1 ⊢
  obtain ⟨p, hp⟩ : ∃ p, p = w.heap.size := ⟨_, rfl⟩
  rw [← hp] at hb
  rw [← hp]
  clear hp
  refine (build_any _ xs w1 (Cm.row (Cm.of_ext hx1) HROW.out) (fun o ho => (HOK1.out o ho).ext hx1)).mono ?_
  rintro e v1 ⟨x, L, M, rfl, hg, hml⟩
  have HG : Hid (Gx w v1 x L M) := Lib.hid ⟨hg.at_.base hx1.size, hx1.trans hg.ext⟩
  have HB := Lib.hid ((Cm.of_ext hg.ext).cells _ _ _ _ hb)
  have HM := Lib.hid hg.at_.good
  clear hg hb HROW HOK1 hx1
  have hb0 := heap_cell HB.out 0
  have hb1 := heap_cell HB.out 1
  have hb2 := heap_cell HB.out 2
  go_wp2_with fail
  refine (light_any ⟨kind, key, .slice A n c, ls⟩ v1 (HO.out.ext HG.out.ext)).mono ?_
  rintro e v2 ⟨lt, rfl, hlt, hx⟩
  have HG2 := Lib.hid (HG.out.later hx)
  have HB2 := Lib.hid ((Cm.of_ext hx).cells _ _ _ _ HB.out)
  clear hb0 hb1 hb2 HG HB hx
  cases lt with
  | false =>
    clear hlt
    go_wp2_with fail
    refine (known_any _).mono ?_
    rintro e v3 ⟨rfl, hx3⟩
    go_wp2_with fail
    go_ret
    exact ⟨rfl, HG2.out.ext.trans hx3⟩
  | true =>
    have hlt2 : ls.length ≤ 12 := hlt rfl
    have hb1 := heap_cell HB2.out 1
    clear hlt
    go_wp2_with fail
    refine (labels_list HG2.out.at_ key HO.out.key).mono ?_
    rintro e v3 ⟨uw, rfl, hrow, hx⟩
    have HG3 := Lib.hid (HG2.out.later hx)
    have HB3 := Lib.hid ((Cm.of_ext hx).cells _ _ _ _ HB2.out)
    have HW3 := Lib.hid hrow
    clear hb1 HG2 HB2 hrow hx
    go_wp2_with fail
    refine (size_list HG3.out.at_ (by omega)).mono ?_
    rintro e v4 ⟨rfl, hx⟩
    have HG4 := Lib.hid (HG3.out.later hx)
    have HB4 := Lib.hid ((Cm.of_ext hx).cells _ _ _ _ HB3.out)
    have HW4 := Lib.hid (HW3.out.ext hx)
    clear HG3 HB3 HW3 hx
    have hb1 := heap_cell HB4.out 1
    have hb2 := heap_cell HB4.out 2
    go_wp2_with fail
    refine (set_list HG4.out.at_ key (.slice A n c) ls HO.out.key ((HO.out.ext HG4.out.ext).row) (by omega) HO.out.labs (by omega)).mono ?_
    rintro e v5 ⟨rfl, hi, hkp, hcm5⟩
    have HG5 := Lib.hid (HG4.out.did hi hkp)
    have HB5 := Lib.hid (hcm5.cells _ _ _ _ HB4.out)
    have HW5 := Lib.hid (hcm5.row HW4.out)
    clear hb1 hb2 HG4 HB4 HW4 hi hkp hcm5
    have hb1 := heap_cell HB5.out 1
    cases hk : okM key ls with
    | false =>
      rw [putM_no hk] at HG5
      rw [errM_no hk]
      go_wp2_with fail
      refine (labels_list HG5.out.at_ key HO.out.key).mono ?_
      rintro e v6 ⟨ul, rfl, hrow, hx⟩
      have HG6 := Lib.hid (HG5.out.later hx)
      have HB6 := Lib.hid ((Cm.of_ext hx).cells _ _ _ _ HB5.out)
      have HW6 := Lib.hid (HW5.out.ext hx)
      have HL6 := Lib.hid hrow
      clear hb1 HG5 HB5 HW5 hrow hx
      have hb1 := heap_cell HB6.out 1
      have hb2 := heap_cell HB6.out 2
      go_wp2_with fail
      refine (key_any key _ HO.out.key).mono ?_
      rintro e _ ⟨rfl, rfl⟩
      unfold okM at hk
      cases hkk : keyI key with
      | false =>
        clear hk
        go_wp2_with fail
        refine (lsame_yes ul uw _ _ _ HL6.out HW6.out rfl).mono ?_
        rintro e v7 ⟨rfl, hx⟩
        have HG7 := Lib.hid (HG6.out.later hx)
        clear HL6 HW6 HG6 HO hx
        go_wp2_with fail
        refine (size_list HG7.out.at_ (by omega)).mono ?_
        rintro e v8 ⟨rfl, hx⟩
        have HG8 := Lib.hid (HG7.out.later hx)
        clear HG7 hx
        go_wp2_with fail
        refine (known_any _).mono ?_
        rintro e v9 ⟨rfl, hx⟩
        go_wp2_with fail
        go_ret
        exact ⟨rfl, HG8.out.ext.trans hx⟩
      | true =>
        have HRT : Hid (rightI ls = false) := Lib.hid (by rw [hkk, Bool.true_and] at hk; exact hk)
        clear hk
        go_wp2_with fail
        refine (right_any (.slice A n c) ls _ ((HO.out.ext HG6.out.ext).row) HO.out.labs (by omega)).mono ?_
        rintro e v10 ⟨rfl, hx⟩
        rw [HRT.out]
        have HG10 := HG6
        have HW10 := HW6
        have HL10 := HL6
        clear HG6 HW6 HL6
        have HG6 := Lib.hid (HG10.out.later hx)
        have HW6 := Lib.hid (HW10.out.ext hx)
        have HL6 := Lib.hid (HL10.out.ext hx)
        clear HG10 HW10 HL10 hb1 hb2 hx
        go_wp2_with fail
        refine (lsame_yes ul uw _ _ _ HL6.out HW6.out rfl).mono ?_
        rintro e v7 ⟨rfl, hx⟩
        have HG7 := Lib.hid (HG6.out.later hx)
        clear HL6 HW6 HG6 HO hx
        go_wp2_with fail
        refine (size_list HG7.out.at_ (by omega)).mono ?_
        rintro e v8 ⟨rfl, hx⟩
        have HG8 := Lib.hid (HG7.out.later hx)
        clear HG7 hx
        go_wp2_with fail
        refine (known_any _).mono ?_
        rintro e v9 ⟨rfl, hx⟩
        go_wp2_with fail
        go_ret
        exact ⟨rfl, HG8.out.ext.trans hx⟩
    | true =>
      rw [putM_yes hk] at HG5
      rw [errM_yes hk]
      have HK := Lib.hid hk
      clear hk
      go_wp2_with fail
      refine (labels_list HG5.out.at_ key HO.out.key).mono ?_
      rintro e v6 ⟨ul, rfl, hrow, hx⟩
      rw [lk_set_self HM.out HK.out, Option.getD_some] at hrow
      have HG6 := Lib.hid (HG5.out.later hx)
      have HB6 := Lib.hid ((Cm.of_ext hx).cells _ _ _ _ HB5.out)
      have HW6 := Lib.hid (HW5.out.ext hx)
      have HL6 := Lib.hid hrow
      have hl2 := len_set M key ls
      have HD1 := Lib.hid (size_drop key M HM.out.sd)
      have HD2 := Lib.hid (size_set M key ls)
      have HD3 := Lib.hid (drop_set (setM M key ls) key (srtL ls))
      have HD4 := Lib.hid (drop_set M key ls)
      have hl3 := len_set (setM M key ls) key (srtL ls)
      have HSL := Lib.hid (srt_len (okM_r HK.out))
      have HDL := Lib.hid (len_drop M key)
      have HDS := Lib.hid (size_le (HM.out.drop key))
      have HSS := Lib.hid (lk_set_self (HM.out.set HK.out) (okM_srt HK.out))
      rw [srt_srt (okM_r HK.out)] at HSS
      have HOS : Hid (∀ y ∈ srtL ls, okL y) := Lib.hid (fun y hy => HO.out.labs y ((srtL_ok (right_good (okM_r HK.out))).1.mem_iff.1 hy))
      have HLT := Lib.hid (fun (i : Nat) (a b : Lab) (ha : (srtL ls)[i]? = some a) (hb : (srtL ls)[i + 1]? = some b) => srt_lt (okM_r HK.out) ha hb)
      have HKS := Lib.hid (errM_yes (okM_srt HK.out))
      have HPS := Lib.hid (putM_yes (M := setM M key ls) (okM_srt HK.out))
      generalize setM M key ls = M2 at HG6 hl2 HD2 HD3 HD4 HSS HPS hl3
      clear hb1 HG5 HB5 HW5 hrow hx HK
      obtain ⟨Aw, nw, cw, rfl, hnw, hncw, hcmw, hrw⟩ := HW6.out
      obtain ⟨A6, n6, c6, rfl, hn6, hnc6, hcm6, hr6⟩ := HL6.out
      obtain rfl : n6 = n := by rw [← hn6, HSL.out, HN.out]
      have HN6 := Lib.hid hn6
      have hs0 : sizeM M = sizeM (dropM M key) + nw := by rw [← hnw]; exact HD1.out
      have hs1 : sizeM M2 = sizeM (dropM M key) + n6 := by rw [← hn6]; exact HD2.out
      have hds := HDS.out
      have hdl := HDL.out
      obtain ⟨s0, hs9⟩ : ∃ s0, sizeM M = s0 := ⟨_, rfl⟩
      rw [hs9] at hs0
      rw [hs9]
      obtain ⟨s1, hs1'⟩ : ∃ s1, sizeM M2 = s1 := ⟨_, rfl⟩
      obtain ⟨d, hd⟩ : ∃ d, sizeM (dropM M key) = d := ⟨_, rfl⟩
      rw [hs1'] at hs1
      rw [hd] at hs0 hs1 hds
      have hnn := hn6
      rw [HSL.out] at hnn
      rw [hnn] at hlt2
      have hw8 : nw ≤ 400 := by have := size_le HM.out; rw [hs9] at this; omega
      have HS0 := Lib.hid hs0
      have HS1 := Lib.hid hs1
      have HS2 := Lib.hid hs1'
      have HS3 := Lib.hid hd
      clear hs0 hs1 hs1' hd hs9
      clear HD1 HD2 hnw hrw hr6 hn6 hnn
      have hb1 := heap_cell HB6.out 1
      go_wp2_with fail
      refine (size_list HG6.out.at_ (by omega)).mono ?_
      rintro e v7 ⟨rfl, hx⟩
      rw [HS2.out]
      have HG7 := Lib.hid (HG6.out.later hx)
      have HB7 := Lib.hid ((Cm.of_ext hx).cells _ _ _ _ HB6.out)
      have HL7 := Lib.hid (HL6.out.ext hx)
      have HW7 := Lib.hid (HW6.out.ext hx)
      clear HG6 HB6 HL6 HW6 hb1 hx
      have hb1 := heap_cell HB7.out 1
      go_wp2_with fail
      refine (set_list HG7.out.at_ key (.slice A6 n6 c6) (srtL ls) HO.out.key HL7.out (by rw [HSL.out]; have := HN.out; omega) HOS.out (by omega)).mono ?_
      rintro e v8 ⟨rfl, hi, hkp, hcm5⟩
      rw [HPS.out] at hi
      rw [HKS.out]
      generalize setM M2 key (srtL ls) = M3 at hi HSS HD3 hl3
      have HG8 := Lib.hid (HG7.out.did hi hkp)
      have HB8 := Lib.hid (hcm5.cells _ _ _ _ HB7.out)
      have HL8 := Lib.hid (hcm5.row HL7.out)
      clear HG7 HB7 HL7 HW7 hb1 hi hkp hcm5 HPS HKS
      have hb1 := heap_cell HB8.out 1
      go_wp2_with fail
      refine (labels_list HG8.out.at_ key HO.out.key).mono ?_
      rintro e v9 ⟨uy, rfl, hrow, hx⟩
      rw [HSS.out, Option.getD_some] at hrow
      have HG9 := Lib.hid (HG8.out.later hx)
      have HB9 := Lib.hid ((Cm.of_ext hx).cells _ _ _ _ HB8.out)
      have HL9 := Lib.hid (HL8.out.ext hx)
      have HY9 := Lib.hid hrow
      clear HG8 HB8 HL8 hb1 hrow hx
      have hb1 := heap_cell HB9.out 1
      go_wp2_with fail
      refine (drop_list HG9.out.at_ key HO.out.key (by omega)).mono ?_
      rintro e v10 ⟨rfl, hi, hkp, hcm5⟩
      rw [HD3.out, HD4.out] at hi
      rw [HSS.out]
      have HG10 := Lib.hid (HG9.out.did hi hkp)
      have HB10 := Lib.hid (hcm5.cells _ _ _ _ HB9.out)
      have HL10 := Lib.hid (hcm5.row HL9.out)
      have HY10 := Lib.hid (hcm5.row HY9.out)
      clear HG9 HB9 HL9 HY9 hb1 hi hkp hcm5 HSS HD3 HD4
      have HR10 : Hid (Rd v10 A6 ((srtL ls).flatMap labC)) := Lib.hid (by
        obtain ⟨_, _, _, h1, _, _, _, h2⟩ := HL10.out
        injection h1 with h1 _ _
        subst h1
        exact h2)
      have HFG := Lib.hid (find_gone M key)
      have HLG := Lib.hid (lk_gone M key)
      generalize dropM M key = M4 at HG10 hdl hds HS3 HFG HLG
      go_wp2_with fail
      go_loopw [14] (fun i wr => ∃ (k : Nat), k ≤ n6 ∧ i = .int .i64 (k : Int) ∧ Ext v10 wr) (fun i _ => n6 - (intOf i).toNat)
      case atStart => exact ⟨0, by omega, rfl, Ext.refl _⟩
      case round =>
        obtain ⟨k, hk, rfl, hx⟩ := hrel
        have HX := Lib.hid hx
        clear hx
        by_cases hkn : k < n6
        · have hkI : (k : Int) < (n6 : Int) := by omega
          have hkJ : (0 : Int) ≤ (k : Int) := by omega
          obtain ⟨y, hy⟩ : ∃ y, (srtL ls)[k]? = some y := ⟨_, List.getElem?_eq_getElem (by have := HN6.out; omega)⟩
          obtain ⟨ad6, rfl⟩ : ∃ ad, A6 = some ad := row_some HR10.out labC_len (by decide) (by have := HN6.out; omega)
          obtain ⟨r0, r1⟩ := lab_cells (HR10.out.ext HX.out) hy
          have HOY := Lib.hid (HOS.out y (List.mem_of_getElem? hy))
          have hb1 := heap_cell ((Cm.of_ext HX.out).cells _ _ _ _ HB10.out) 1
          have HGq := Lib.hid (HG10.out.later HX.out)
          rcases Nat.eq_zero_or_pos k with hk0 | hk0
          · have hkd : decide ((0 : Int) < (k : Int)) = false := by rw [decide_eq_false_iff_not]; omega
            have hkd2 : decide (0 < k) = false := by rw [decide_eq_false_iff_not]; omega
            obtain ⟨y1, y2⟩ := y
            dsimp only at r0 r1
            clear hy hk0
            have hs0 : wr.cell? (ad6.add (k * 2)) = some (.string y1) ∧ wr.cell? ⟨(ad6.add (k * 2)).block, (ad6.add (k * 2)).off + 1, none⟩ = some (.string y2) ∧ wr.cell? ⟨p, 1, none⟩ = some (.string key) := ⟨r0, r1, hb1⟩
            go_wp2_with fail
            refine wp_region_held_drew (S := fun wz => wz.cell? (ad6.add (k * 2)) = some (.string y1) ∧ wz.cell? ⟨(ad6.add (k * 2)).block, (ad6.add (k * 2)).off + 1, none⟩ = some (.string y2) ∧ wz.cell? ⟨p, 1, none⟩ = some (.string key)) (by kernel_rfl) hs0 (fun hHeld => ?_)
            refine' wpAnyH_take (i := 0) (oi := _) (v := _) ?hi6 ?hs6 ?hf6 ?hr6 ?hQ6 (Or.inl ⟨?hw6, ?hy6⟩) (by assumption) ?hrest6
            case hi6 => simp only [List.getElem?_toArray]; rfl
            case hs6 => kernel_rfl
            case hf6 => kernel_rfl
            case hr6 => kernel_rfl
            case hQ6 => exact fun _ _ _ h => h
            case hw6 => rfl
            case hy6 => intro w hSw; (try dsimp only at hSw); go_simp; try with_reducible rfl
            try simp only [Act.put, List.setIfInBounds_toArray, List.set_cons_zero, List.set_cons_succ]
            refine' wpAnyH_take (i := 1) (oi := _) (v := _) ?hi7 ?hs7 ?hf7 ?hr7 ?hQ7 (Or.inl ⟨?hw7, ?hy7⟩) (by assumption) ?hrest7
            case hi7 => simp only [List.getElem?_toArray]; rfl
            case hs7 => kernel_rfl
            case hf7 => kernel_rfl
            case hr7 => kernel_rfl
            case hQ7 => exact fun _ _ _ h => h
            case hw7 => rfl
            case hy7 => intro w hSw; (try dsimp only at hSw); go_simp; try with_reducible rfl
            try simp only [Act.put, List.setIfInBounds_toArray, List.set_cons_zero, List.set_cons_succ]
            refine' wpAnyH_take (i := 2) (oi := _) (v := _) ?hi8 ?hs8 ?hf8 ?hr8 ?hQ8 (Or.inl ⟨?hw8, ?hy8⟩) (by assumption) ?hrest8
            case hi8 => simp only [List.getElem?_toArray]; rfl
            case hs8 => kernel_rfl
            case hf8 => kernel_rfl
            case hr8 => kernel_rfl
            case hQ8 => exact fun _ _ _ h => h
            case hw8 => rfl
            case hy8 => intro w hSw; (try dsimp only at hSw); go_simp; try with_reducible rfl
            try simp only [Act.put, List.setIfInBounds_toArray, List.set_cons_zero, List.set_cons_succ]
            refine' wpAnyH_take (i := 3) (oi := _) (v := _) ?hi9 ?hs9 ?hf9 ?hr9 ?hQ9 (Or.inl ⟨?hw9, ?hy9⟩) (by assumption) ?hrest9
            case hi9 => simp only [List.getElem?_toArray]; rfl
            case hs9 => kernel_rfl
            case hf9 => kernel_rfl
            case hr9 => kernel_rfl
            case hQ9 => exact fun _ _ _ h => h
            case hw9 => rfl
            case hy9 => intro w hSw; (try dsimp only at hSw); go_simp; try with_reducible rfl
            try simp only [Act.put, List.setIfInBounds_toArray, List.set_cons_zero, List.set_cons_succ]
            refine' wpAnyH_take (i := 4) (oi := _) (v := _) ?hi10 ?hs10 ?hf10 ?hr10 ?hQ10 (Or.inl ⟨?hw10, ?hy10⟩) (by assumption) ?hrest10
            case hi10 => simp only [List.getElem?_toArray]; rfl
            case hs10 => kernel_rfl
            case hf10 => kernel_rfl
            case hr10 => kernel_rfl
            case hQ10 => exact fun _ _ _ h => h
            case hw10 => rfl
            case hy10 => intro w hSw; (try dsimp only at hSw); go_simp; try with_reducible rfl
            try simp only [Act.put, List.setIfInBounds_toArray, List.set_cons_zero, List.set_cons_succ]
            refine' wpAnyH_take (i := 5) (oi := _) (v := _) ?hi11 ?hs11 ?hf11 ?hr11 ?hQ11 (Or.inl ⟨?hw11, ?hy11⟩) (by assumption) ?hrest11
            case hi11 => simp only [List.getElem?_toArray]; rfl
            case hs11 => kernel_rfl
            case hf11 => kernel_rfl
            case hr11 => kernel_rfl
            case hQ11 => exact fun _ _ _ h => h
            case hw11 => rfl
            case hy11 => intro w hSw; (try dsimp only at hSw); go_simp; try with_reducible rfl
            try simp only [Act.put, List.setIfInBounds_toArray, List.set_cons_zero, List.set_cons_succ]
            refine' wpAnyH_take (i := 6) (oi := _) (v := _) ?hi12 ?hs12 ?hf12 ?hr12 ?hQ12 (Or.inl ⟨?hw12, ?hy12⟩) (by assumption) ?hrest12
            case hi12 => simp only [List.getElem?_toArray]; rfl
            case hs12 => kernel_rfl
            case hf12 => kernel_rfl
            case hr12 => kernel_rfl
            case hQ12 => exact fun _ _ _ h => h
            case hw12 => rfl
            case hy12 => intro w hSw; (try dsimp only at hSw); go_simp; try with_reducible rfl
            try simp only [Act.put, List.setIfInBounds_toArray, List.set_cons_zero, List.set_cons_succ]
            refine' wpAnyH_take (i := 7) (oi := _) (v := _) ?hi13 ?hs13 ?hf13 ?hr13 ?hQ13 (Or.inl ⟨?hw13, ?hy13⟩) (by assumption) ?hrest13
            case hi13 => simp only [List.getElem?_toArray]; rfl
            case hs13 => kernel_rfl
            case hf13 => kernel_rfl
            case hr13 => kernel_rfl
            case hQ13 => exact fun _ _ _ h => h
            case hw13 => rfl
            case hy13 => intro w hSw; (try dsimp only at hSw); go_simp; try with_reducible rfl
            try simp only [Act.put, List.setIfInBounds_toArray, List.set_cons_zero, List.set_cons_succ]
            refine' wpAnyH_take (i := 8) (oi := _) (v := _) ?hi14 ?hs14 ?hf14 ?hr14 ?hQ14 (Or.inl ⟨?hw14, ?hy14⟩) (by assumption) ?hrest14
            case hi14 => simp only [List.getElem?_toArray]; rfl
            case hs14 => kernel_rfl
            case hf14 => kernel_rfl
            case hr14 => kernel_rfl
            case hQ14 => exact fun _ _ _ h => h
            case hw14 => rfl
            case hy14 => intro w hSw; (try dsimp only at hSw); go_simp; try with_reducible rfl
            try simp only [Act.put, List.setIfInBounds_toArray, List.set_cons_zero, List.set_cons_succ]
            refine' wpAnyH_take (i := 9) (oi := _) (v := _) ?hi15 ?hs15 ?hf15 ?hr15 ?hQ15 (Or.inl ⟨?hw15, ?hy15⟩) (by assumption) ?hrest15
            case hi15 => simp only [List.getElem?_toArray]; rfl
            case hs15 => kernel_rfl
            case hf15 => kernel_rfl
            case hr15 => kernel_rfl
            case hQ15 => exact fun _ _ _ h => h
            case hw15 => rfl
            case hy15 => intro w hSw; (try dsimp only at hSw); go_simp; try with_reducible rfl
            try simp only [Act.put, List.setIfInBounds_toArray, List.set_cons_zero, List.set_cons_succ]
            refine' wpAnyH_take (i := 10) (oi := _) (v := _) ?hi16 ?hs16 ?hf16 ?hr16 ?hQ16 (Or.inl ⟨?hw16, ?hy16⟩) (by assumption) ?hrest16
            case hi16 => simp only [List.getElem?_toArray]; rfl
            case hs16 => kernel_rfl
            case hf16 => kernel_rfl
            case hr16 => kernel_rfl
            case hQ16 => exact fun _ _ _ h => h
            case hw16 => rfl
            case hy16 => intro w hSw; (try dsimp only at hSw); go_simp; try with_reducible rfl
            try simp only [Act.put, List.setIfInBounds_toArray, List.set_cons_zero, List.set_cons_succ]
            refine' wpAnyH_take (i := 12) (oi := _) (v := _) ?hi17 ?hs17 ?hf17 ?hr17 ?hQ17 (Or.inl ⟨?hw17, ?hy17⟩) (by assumption) ?hrest17
            case hi17 => simp only [List.getElem?_toArray]; rfl
            case hs17 => kernel_rfl
            case hf17 => kernel_rfl
            case hr17 => kernel_rfl
            case hQ17 => exact fun _ _ _ h => h
            case hw17 => rfl
            case hy17 => intro w hSw; (try dsimp only at hSw); go_simp; try with_reducible rfl
            try simp only [Act.put, List.setIfInBounds_toArray, List.set_cons_zero, List.set_cons_succ]
            refine' wpAnyH_take (i := 13) (oi := _) (v := _) ?hi18 ?hs18 ?hf18 ?hr18 ?hQ18 (Or.inl ⟨?hw18, ?hy18⟩) (by assumption) ?hrest18
            case hi18 => simp only [List.getElem?_toArray]; rfl
            case hs18 => kernel_rfl
            case hf18 => kernel_rfl
            case hr18 => kernel_rfl
            case hQ18 => exact fun _ _ _ h => h
            case hw18 => rfl
            case hy18 => intro w hSw; (try dsimp only at hSw); go_simp; try with_reducible rfl
            try simp only [Act.put, List.setIfInBounds_toArray, List.set_cons_zero, List.set_cons_succ]
            refine wpAnyH_ready (rs := [11]) (by kernel_rfl) (by simp) ?_
            refine' AllReadyH.cons (o := _) ?ho19 (fun K hK => ?hstep19) AllReadyH.nil
            case ho19 => simp only [List.getElem?_toArray]; rfl
            go_simp
            refine (find_list (HGq.out.at_.ext (Ext.drew wr)) (y1, y2) HOY.out (by omega)).mono ?_
            rintro e v11 ⟨u5, rfl, ht5, hx⟩
            have HX9 := Lib.hid ((Ext.drew wr).trans hx)
            have HT5 := Lib.hid ht5
            have hs5 := And.intro (HX9.out.cell hs0.1) (And.intro (HX9.out.cell hs0.2.1) (HX9.out.cell hs0.2.2))
            clear hx ht5
            refine hK.out _ _ (hs5) (fun hHeld => ?_)
            clear hK K
            try simp only [Act.put, List.setIfInBounds_toArray, List.set_cons_zero, List.set_cons_succ]
            refine wpAnyH_ready (rs := [14]) (by kernel_rfl) (by simp) ?_
            refine' AllReadyH.cons (o := _) ?ho21 (fun K hK => ?hstep21) AllReadyH.nil
            case ho21 => simp only [List.getElem?_toArray]; rfl
            go_simp
            refine (rhas_txt u5 _ key v11 HT5.out).mono ?_
            rintro e _ ⟨rfl, rfl⟩
            rw [HFG.out]
            refine hK.out _ _ (hs5) (fun hHeld => ?_)
            clear hK K
            try simp only [Act.put, List.setIfInBounds_toArray, List.set_cons_zero, List.set_cons_succ]
            refine' wpAnyH_take (i := 15) (oi := _) (v := _) ?hi23 ?hs23 ?hf23 ?hr23 ?hQ23 (Or.inl ⟨?hw23, ?hy23⟩) (by assumption) ?hrest23
            case hi23 => simp only [List.getElem?_toArray]; rfl
            case hs23 => kernel_rfl
            case hf23 => kernel_rfl
            case hr23 => kernel_rfl
            case hQ23 => exact fun _ _ _ h => h
            case hw23 => rfl
            case hy23 => intro w hSw; (try dsimp only at hSw); go_simp; try with_reducible rfl
            try simp only [Act.put, List.setIfInBounds_toArray, List.set_cons_zero, List.set_cons_succ]
            refine' wpAnyH_take (i := 16) (oi := _) (v := _) ?hi24 ?hs24 ?hf24 ?hr24 ?hQ24 (Or.inl ⟨?hw24, ?hy24⟩) (by assumption) ?hrest24
            case hi24 => simp only [List.getElem?_toArray]; rfl
            case hs24 => kernel_rfl
            case hf24 => kernel_rfl
            case hr24 => kernel_rfl
            case hQ24 => exact fun _ _ _ h => h
            case hw24 => rfl
            case hy24 => intro w hSw; (try dsimp only at hSw); go_simp; try with_reducible rfl
            try simp only [Act.put, List.setIfInBounds_toArray, List.set_cons_zero, List.set_cons_succ]
            refine' wpAnyH_take (i := 17) (oi := _) (v := _) ?hi25 ?hs25 ?hf25 ?hr25 ?hQ25 (Or.inl ⟨?hw25, ?hy25⟩) (by assumption) ?hrest25
            case hi25 => simp only [List.getElem?_toArray]; rfl
            case hs25 => kernel_rfl
            case hf25 => kernel_rfl
            case hr25 => kernel_rfl
            case hQ25 => exact fun _ _ _ h => h
            case hw25 => rfl
            case hy25 => intro w hSw; (try dsimp only at hSw); go_simp; try with_reducible rfl
            try simp only [Act.put, List.setIfInBounds_toArray, List.set_cons_zero, List.set_cons_succ]
            refine' wpAnyH_take (i := 18) (oi := _) (v := _) ?hi26 ?hs26 ?hf26 ?hr26 ?hQ26 (Or.inl ⟨?hw26, ?hy26⟩) (by assumption) ?hrest26
            case hi26 => simp only [List.getElem?_toArray]; rfl
            case hs26 => kernel_rfl
            case hf26 => kernel_rfl
            case hr26 => kernel_rfl
            case hQ26 => exact fun _ _ _ h => h
            case hw26 => rfl
            case hy26 => intro w hSw; (try dsimp only at hSw); go_simp; try with_reducible rfl
            try simp only [Act.put, List.setIfInBounds_toArray, List.set_cons_zero, List.set_cons_succ]
            refine' wpAnyH_take (i := 19) (oi := _) (v := undef) ?hi27 ?hs27 ?hf27 ?hr27 ?hQ27 (Or.inr ⟨?hw27, rfl⟩) (by assumption) ?hrest27
            case hi27 => simp only [List.getElem?_toArray]; rfl
            case hs27 => kernel_rfl
            case hf27 => kernel_rfl
            case hr27 => kernel_rfl
            case hQ27 => exact fun _ _ _ h => h
            case hw27 => rfl
            try simp only [Act.put, List.setIfInBounds_toArray, List.set_cons_zero, List.set_cons_succ]
            refine' wpAnyH_take (i := 20) (oi := _) (v := undef) ?hi28 ?hs28 ?hf28 ?hr28 ?hQ28 (Or.inr ⟨?hw28, rfl⟩) (by assumption) ?hrest28
            case hi28 => simp only [List.getElem?_toArray]; rfl
            case hs28 => kernel_rfl
            case hf28 => kernel_rfl
            case hr28 => kernel_rfl
            case hQ28 => exact fun _ _ _ h => h
            case hw28 => rfl
            try simp only [Act.put, List.setIfInBounds_toArray, List.set_cons_zero, List.set_cons_succ]
            refine' wpAnyH_take (i := 21) (oi := _) (v := undef) ?hi29 ?hs29 ?hf29 ?hr29 ?hQ29 (Or.inr ⟨?hw29, rfl⟩) (by assumption) ?hrest29
            case hi29 => simp only [List.getElem?_toArray]; rfl
            case hs29 => kernel_rfl
            case hf29 => kernel_rfl
            case hr29 => kernel_rfl
            case hQ29 => exact fun _ _ _ h => h
            case hw29 => rfl
            try simp only [Act.put, List.setIfInBounds_toArray, List.set_cons_zero, List.set_cons_succ]
            refine' wpAnyH_take (i := 22) (oi := _) (v := undef) ?hi30 ?hs30 ?hf30 ?hr30 ?hQ30 (Or.inr ⟨?hw30, rfl⟩) (by assumption) ?hrest30
            case hi30 => simp only [List.getElem?_toArray]; rfl
            case hs30 => kernel_rfl
            case hf30 => kernel_rfl
            case hr30 => kernel_rfl
            case hQ30 => exact fun _ _ _ h => h
            case hw30 => rfl
            try simp only [Act.put, List.setIfInBounds_toArray, List.set_cons_zero, List.set_cons_succ]
            refine' wpAnyH_take (i := 23) (oi := _) (v := undef) ?hi31 ?hs31 ?hf31 ?hr31 ?hQ31 (Or.inr ⟨?hw31, rfl⟩) (by assumption) ?hrest31
            case hi31 => simp only [List.getElem?_toArray]; rfl
            case hs31 => kernel_rfl
            case hf31 => kernel_rfl
            case hr31 => kernel_rfl
            case hQ31 => exact fun _ _ _ h => h
            case hw31 => rfl
            try simp only [Act.put, List.setIfInBounds_toArray, List.set_cons_zero, List.set_cons_succ]
            refine' wpAnyH_take (i := 24) (oi := _) (v := undef) ?hi32 ?hs32 ?hf32 ?hr32 ?hQ32 (Or.inr ⟨?hw32, rfl⟩) (by assumption) ?hrest32
            case hi32 => simp only [List.getElem?_toArray]; rfl
            case hs32 => kernel_rfl
            case hf32 => kernel_rfl
            case hr32 => kernel_rfl
            case hQ32 => exact fun _ _ _ h => h
            case hw32 => rfl
            try simp only [Act.put, List.setIfInBounds_toArray, List.set_cons_zero, List.set_cons_succ]
            refine' wpAnyH_take (i := 25) (oi := _) (v := undef) ?hi33 ?hs33 ?hf33 ?hr33 ?hQ33 (Or.inr ⟨?hw33, rfl⟩) (by assumption) ?hrest33
            case hi33 => simp only [List.getElem?_toArray]; rfl
            case hs33 => kernel_rfl
            case hf33 => kernel_rfl
            case hr33 => kernel_rfl
            case hQ33 => exact fun _ _ _ h => h
            case hw33 => rfl
            try simp only [Act.put, List.setIfInBounds_toArray, List.set_cons_zero, List.set_cons_succ]
            refine' wpAnyH_take (i := 26) (oi := _) (v := undef) ?hi34 ?hs34 ?hf34 ?hr34 ?hQ34 (Or.inr ⟨?hw34, rfl⟩) (by assumption) ?hrest34
            case hi34 => simp only [List.getElem?_toArray]; rfl
            case hs34 => kernel_rfl
            case hf34 => kernel_rfl
            case hr34 => kernel_rfl
            case hQ34 => exact fun _ _ _ h => h
            case hw34 => rfl
            try simp only [Act.put, List.setIfInBounds_toArray, List.set_cons_zero, List.set_cons_succ]
            refine' wpAnyH_take (i := 27) (oi := _) (v := undef) ?hi35 ?hs35 ?hf35 ?hr35 ?hQ35 (Or.inr ⟨?hw35, rfl⟩) (by assumption) ?hrest35
            case hi35 => simp only [List.getElem?_toArray]; rfl
            case hs35 => kernel_rfl
            case hf35 => kernel_rfl
            case hr35 => kernel_rfl
            case hQ35 => exact fun _ _ _ h => h
            case hw35 => rfl
            try simp only [Act.put, List.setIfInBounds_toArray, List.set_cons_zero, List.set_cons_succ]
            refine' wpAnyH_take (i := 28) (oi := _) (v := undef) ?hi36 ?hs36 ?hf36 ?hr36 ?hQ36 (Or.inr ⟨?hw36, rfl⟩) (by assumption) ?hrest36
            case hi36 => simp only [List.getElem?_toArray]; rfl
            case hs36 => kernel_rfl
            case hf36 => kernel_rfl
            case hr36 => kernel_rfl
            case hQ36 => exact fun _ _ _ h => h
            case hw36 => rfl
            try simp only [Act.put, List.setIfInBounds_toArray, List.set_cons_zero, List.set_cons_succ]
            refine' wpAnyH_take (i := 29) (oi := _) (v := undef) ?hi37 ?hs37 ?hf37 ?hr37 ?hQ37 (Or.inr ⟨?hw37, rfl⟩) (by assumption) ?hrest37
            case hi37 => simp only [List.getElem?_toArray]; rfl
            case hs37 => kernel_rfl
            case hf37 => kernel_rfl
            case hr37 => kernel_rfl
            case hQ37 => exact fun _ _ _ h => h
            case hw37 => rfl
            try simp only [Act.put, List.setIfInBounds_toArray, List.set_cons_zero, List.set_cons_succ]
            refine' wpAnyH_take (i := 30) (oi := _) (v := undef) ?hi38 ?hs38 ?hf38 ?hr38 ?hQ38 (Or.inr ⟨?hw38, rfl⟩) (by assumption) ?hrest38
            case hi38 => simp only [List.getElem?_toArray]; rfl
            case hs38 => kernel_rfl
            case hf38 => kernel_rfl
            case hr38 => kernel_rfl
            case hQ38 => exact fun _ _ _ h => h
            case hw38 => rfl
            try simp only [Act.put, List.setIfInBounds_toArray, List.set_cons_zero, List.set_cons_succ]
            refine' wpAnyH_take (i := 31) (oi := _) (v := undef) ?hi39 ?hs39 ?hf39 ?hr39 ?hQ39 (Or.inr ⟨?hw39, rfl⟩) (by assumption) ?hrest39
            case hi39 => simp only [List.getElem?_toArray]; rfl
            case hs39 => kernel_rfl
            case hf39 => kernel_rfl
            case hr39 => kernel_rfl
            case hQ39 => exact fun _ _ _ h => h
            case hw39 => rfl
            try simp only [Act.put, List.setIfInBounds_toArray, List.set_cons_zero, List.set_cons_succ]
            refine' wpAnyH_take (i := 32) (oi := _) (v := _) ?hi40 ?hs40 ?hf40 ?hr40 ?hQ40 (Or.inl ⟨?hw40, ?hy40⟩) (by assumption) ?hrest40
            case hi40 => simp only [List.getElem?_toArray]; rfl
            case hs40 => kernel_rfl
            case hf40 => kernel_rfl
            case hr40 => kernel_rfl
            case hQ40 => exact fun _ _ _ h => h
            case hw40 => rfl
            case hy40 => intro w hSw; (try dsimp only at hSw); go_simp; try with_reducible rfl
            try simp only [Act.put, List.setIfInBounds_toArray, List.set_cons_zero, List.set_cons_succ]
            refine' wpAnyH_take (i := 33) (oi := _) (v := _) ?hi41 ?hs41 ?hf41 ?hr41 ?hQ41 (Or.inl ⟨?hw41, ?hy41⟩) (by assumption) ?hrest41
            case hi41 => simp only [List.getElem?_toArray]; rfl
            case hs41 => kernel_rfl
            case hf41 => kernel_rfl
            case hr41 => kernel_rfl
            case hQ41 => exact fun _ _ _ h => h
            case hw41 => rfl
            case hy41 => intro w hSw; (try dsimp only at hSw); go_simp; try with_reducible rfl
            try simp only [Act.put, List.setIfInBounds_toArray, List.set_cons_zero, List.set_cons_succ]
            refine wpAnyH_done (by kernel_rfl) ?_ _
            go_wp2_with fail
            go_roundw
            case rel => exact ⟨k + 1, by omega, by go_num, HX.out.trans HX9.out⟩
            case measure => simp [intOf]; omega
          · have hkd : (0 : Int) < (k : Int) := by omega
            obtain ⟨j, hj⟩ : ∃ j, j = k - 1 := ⟨_, rfl⟩
            have hj1 : (k : Int) - 1 = (j : Int) := by omega
            have hj2 : IntKind.i64.wrap (j : Int) = (j : Int) := by simp only [IntKind.wrap, IntKind.bits, IntKind.signed]; simp; omega
            have hj3 : IntKind.i64.wrap ((k : Int) - 1) = (j : Int) := by rw [hj1]; exact hj2
            have hj4 : (0 : Int) ≤ (j : Int) := by omega
            have hj5 : (j : Int) < (n6 : Int) := by omega
            obtain ⟨z, hz⟩ : ∃ y, (srtL ls)[j]? = some y := ⟨_, List.getElem?_eq_getElem (by have := HN6.out; omega)⟩
            obtain ⟨q0, _⟩ := lab_cells (HR10.out.ext HX.out) hz
            have HZY := Lib.hid (HLT.out j z y hz (by rw [show j + 1 = k by omega]; exact hy))
            have HOZ := Lib.hid (HOS.out z (List.mem_of_getElem? hz))
            obtain ⟨y1, y2⟩ := y
            obtain ⟨z1, z2⟩ := z
            dsimp only at r0 r1 q0 HZY
            clear hy hz hj
            have hs0 : wr.cell? (ad6.add (k * 2)) = some (.string y1) ∧ wr.cell? ⟨(ad6.add (k * 2)).block, (ad6.add (k * 2)).off + 1, none⟩ = some (.string y2) ∧ wr.cell? ⟨p, 1, none⟩ = some (.string key) ∧ wr.cell? (ad6.add (j * 2)) = some (.string z1) := ⟨r0, r1, hb1, q0⟩
            go_wp2_with fail
            go_region_held3 (fun wz => wz.cell? (ad6.add (k * 2)) = some (.string y1) ∧ wz.cell? ⟨(ad6.add (k * 2)).block, (ad6.add (k * 2)).off + 1, none⟩ = some (.string y2) ∧ wz.cell? ⟨p, 1, none⟩ = some (.string key) ∧ wz.cell? (ad6.add (j * 2)) = some (.string z1)) (first | assumption | exact hs5) (first
              | (go_at_call 26
                 refine (find_list (HGq.out.at_.ext (Ext.drew wr)) (y1, y2) HOY.out (by omega)).mono ?_
                 rintro e v11 ⟨u5, rfl, ht5, hx⟩
                 have HX9 := Lib.hid ((Ext.drew wr).trans hx)
                 have HT5 := Lib.hid ht5
                 have hs5 := And.intro (HX9.out.cell hs0.1) (And.intro (HX9.out.cell hs0.2.1) (And.intro (HX9.out.cell hs0.2.2.1) (HX9.out.cell hs0.2.2.2)))
                 clear hx ht5)
              | (go_at_call_of 35 u5
                 refine (rhas_txt u5 _ key v11 HT5.out).mono ?_
                 rintro e _ ⟨rfl, rfl⟩
                 rw [HFG.out])
              | (go_at_call 36
                 refine (below_yes z1 y1 HZY.out v11 HOZ.out.1 HOY.out.1).mono ?_
                 rintro e _ ⟨rfl, q11, rfl⟩))
            go_wp2_with fail
            go_roundw
            case rel => exact ⟨k + 1, by omega, by go_num, (HX.out.trans HX9.out).trans (Ext.drewN _ _)⟩
            case measure => simp [intOf]; omega
        · obtain rfl : k = n6 := by omega
          have HG11 := Lib.hid (HG10.out.later HX.out)
          have hb1 := heap_cell ((Cm.of_ext HX.out).cells _ _ _ _ HB10.out) 1
          have hb2 := heap_cell ((Cm.of_ext HX.out).cells _ _ _ _ HB10.out) 2
          have HL11 := Lib.hid (HL10.out.ext HX.out)
          have HY11 := Lib.hid (HY10.out.ext HX.out)
          have a1 : (s0 : Int) - (nw : Int) = (d : Int) := by have := HS0.out; omega
          have a2 : IntKind.i64.wrap (d : Int) = (d : Int) := by simp only [IntKind.wrap, IntKind.bits, IntKind.signed]; simp; omega
          have a3 : (d : Int) + (k : Int) = (s1 : Int) := by have := HS1.out; omega
          have a4 : IntKind.i64.wrap (s1 : Int) = (s1 : Int) := by simp only [IntKind.wrap, IntKind.bits, IntKind.signed]; simp; have := HS1.out; omega
          have a5 : (s1 : Int) - (k : Int) = (d : Int) := by have := HS1.out; omega
          go_wp2_with fail
          refine (lsame_yes uy (.slice A6 k c6) _ _ _ HY11.out HL11.out rfl).mono ?_
          rintro e v12 ⟨rfl, hx⟩
          have HG12 := Lib.hid (HG11.out.later hx)
          have hb1 := hx.cell hb1
          clear HG11 HL11 HY11 hb2 hx
          go_wp2_with fail
          refine (size_list HG12.out.at_ (by omega)).mono ?_
          rintro e v13 ⟨rfl, hx⟩
          rw [HS3.out]
          have HG13 := Lib.hid (HG12.out.later hx)
          have hb1 := hx.cell hb1
          clear HG12 hx
          go_wp2_with fail
          refine (has_list HG13.out.at_ key HO.out.key).mono ?_
          rintro e _ ⟨rfl, rfl⟩
          rw [HLG.out]
          go_wp2_with fail
          refine (known_any _).mono ?_
          rintro e v14 ⟨rfl, hx⟩
          go_wp2_with fail
          go_ret
          exact ⟨rfl, HG13.out.ext.trans hx⟩
end Go.Proofs.Ytebcjpapmjebgaa
