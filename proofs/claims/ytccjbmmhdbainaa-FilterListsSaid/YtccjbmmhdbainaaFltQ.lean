/- A text's term: the document. -/
import Derived.Test.YtccjbmmhdbainaaFltR
namespace Go.Proofs.Ytccjbmmhdbainaa
open Go.RowKit Sets
set_option linter.unusedVariables false
set_option linter.unusedSectionVars false
set_option linter.unusedSimpArgs false
set_option maxRecDepth 100000

theorem Far.mono {B B' : Nat} {v : Value} (h : Far B v) (hb : B' ≤ B) : Far B' v := fun A n c e ad e2 => Nat.le_trans hb (h A n c e ad e2)
theorem word_empty : wordB ⟨#[]⟩ = false := by
  unfold wordB wordL
  rw [show (⟨#[]⟩ : ByteArray).toList = [] from empty_list]
  rfl
theorem right_noname {t : Tm} (h : wordB t.name = false) : rightT t = false := by
  unfold rightT
  rw [h, Bool.false_and, Bool.and_false]
theorem parse_zero {s : ByteArray} {rest : List UInt8} (h : cutL 61 s.toList = some ([], rest)) : parseB s = none := by
  unfold parseB parseL
  rw [h]
  dsimp only
  rw [right_noname (t := termL [] rest) (by
    have : (termL [] rest).name = ⟨#[]⟩ := rfl
    rw [this]
    exact word_empty)]
  rfl
/-- What stands behind the sign opens a list that does not end. -/
theorem parse_open {s R : ByteArray} {name rest : List UInt8} (h : cutL 61 s.toList = some (name, rest)) (hR : R.toList = rest) (hp : parenL R.toList = false) (hz : R.size ≠ 0) (h0 : R.toList[0]? = some 40) : parseB s = none := by
  unfold parseB parseL
  rw [h, ← hR]
  dsimp only
  have hv : (termL name R.toList).vals = [R] := by
    unfold termL
    rw [inner_one hp hz, backs_one]
    split <;> rfl
  rw [right_no (t := termL name R.toList) (k := 0) (x := R) (by rw [hv]; rfl) (by
    unfold wordB wordL
    rw [all_no h0 (by decide), Bool.false_and])]
  rfl
/-- Stores into a field of a block. -/
theorem store_at {v : World} {q i : Nat} {cs : Array Value} {t : TypeId} (x : Value) (h : v.heap[q]? = some (.cells cs t (0, 0))) : (v.setCell ⟨q, i, none⟩ x).heap[q]? = some (.cells (cs.setIfInBounds i x) t (0, 0)) ∧ Kp [q] v (v.setCell ⟨q, i, none⟩ x) :=
  ⟨heap_setCell_same v q i _ _ x h, Kp.store q i _ (by simp)⟩

set_option maxHeartbeats 8000000 in
theorem rparse_any (s : ByteArray) (w : World) (hs : s.size ≤ 100000) :
    Calls Try.prog 23 #[.string s] w fun e w' => ParE s e w' ∧ Ext w w' := by
  go_enter Try.func23, Try.ntmps23
  go_upto_region 1 with fail
  have hbr := heap_alloc_new w (.cells #[.string ⟨#[]⟩, .bool false, .slice none 0 0] 30 (0, 0))
  have hx1 := Ext.alloc w (.cells #[.string ⟨#[]⟩, .bool false, .slice none 0 0] 30)
  generalize w.alloc (.cells #[.string ⟨#[]⟩, .bool false, .slice none 0 0] 30) = w1 at hbr hx1 ⊢
  obtain ⟨r, hr⟩ : ∃ r, r = w.heap.size := ⟨_, rfl⟩
  rw [← hr] at hbr
  rw [← hr]
  have HRW := Lib.hid (Nat.le_of_eq hr.symm)
  have HX1 := Lib.hid hx1
  have HR1 := Lib.hid hbr
  have hrl1 : r < w1.heap.size := (Array.getElem?_eq_some_iff.1 hbr).1
  have HRV : Hid (r < r + 1) := Lib.hid (Nat.lt_succ_self r)
  clear hr hbr hx1
  go_wp2_with fail
  go_loop [4] (fun i => ∃ k : Nat, k ≤ s.size ∧ i = .int .i64 (k : Int) ∧ Hid (∀ a ∈ s.toList.take k, a ≠ 61)) (fun i => s.size - (intOf i).toNat)
  case atStart => exact ⟨0, by omega, rfl, Lib.hid (by simp)⟩
  case round =>
    obtain ⟨k, hk, rfl, HA⟩ := hrel
    have d0 := heap_cell HR1.out 0
    have d1 := heap_cell HR1.out 1
    have d2 := heap_cell HR1.out 2
    have f0 := heap_frozen HR1.out 0
    have f1 := heap_frozen HR1.out 1
    have f2 := heap_frozen HR1.out 2
    by_cases hkn : k < s.size
    · have hkI : (k : Int) < (s.size : Int) := by omega
      have hkJ : (0 : Int) ≤ (k : Int) := by omega
      have hb := get_list s k hkn
      generalize hsk : s[k] = b at hb
      by_cases hbc : b = 61
      · subst hbc
        have HC := Lib.hid (cutL_at HA.out hb)
        have hksI : ((k : Int) == (s.size : Int)) = false := by rw [beq_eq_false_iff_ne]; omega
        have hksJ : (k == s.size) = false := by rw [beq_eq_false_iff_ne]; omega
        clear hb
        rcases Nat.eq_zero_or_pos k with hk0 | hk0
        · have hk0I : ((k : Int) == 0) = true := by rw [beq_iff_eq]; omega
          have hk0J : (k == 0) = true := by rw [beq_iff_eq]; omega
          have HP : Hid (parseB s = none) := Lib.hid (parse_zero (by rw [HC.out, hk0]; rfl))
          clear hk0
          go_wp2_with fail
          have hres := set3 (a' := .string ⟨#[]⟩) (b' := .bool false) (c' := .slice none 0 0) HR1.out
          have e0 := heap_cell hres 0
          have e1 := heap_cell hres 1
          have e2 := heap_cell hres 2
          refine bodyPost_ret (v := .tuple #[.agg #[.string ⟨#[]⟩, .bool false, .slice none 0 0], .int .i64 4]) ?_ rfl ⟨.inl ⟨HP.out, rfl⟩, kp3.to_ext HX1.out (by simpa using HRW.out)⟩
          simp [results, Try.results23, go_sem, e0, e1, e2]
        · have hk0I : ((k : Int) == 0) = false := by rw [beq_eq_false_iff_ne]; omega
          have hk0J : (k == 0) = false := by rw [beq_eq_false_iff_ne]; omega
          have HPN : Hid (rightT (termL (s.toList.take k) (s.toList.drop (k + 1))) = false → parseB s = none) := Lib.hid (fun h => by unfold parseB parseL; rw [HC.out]; dsimp only; rw [h]; rfl)
          have HPY : Hid (rightT (termL (s.toList.take k) (s.toList.drop (k + 1))) = true → parseB s = some (termL (s.toList.take k) (s.toList.drop (k + 1)))) := Lib.hid (fun h => by unfold parseB parseL; rw [HC.out]; dsimp only; rw [h]; rfl)
          have hkS : (k : Int) ≤ (s.size : Int) := by omega
          have hk1I : (0 : Int) ≤ (k : Int) - 1 := by omega
          have hk2I : (k : Int) - 1 < (s.size : Int) := by omega
          have hk3I : (k : Int) - 1 ≤ (s.size : Int) := by omega
          have hk4I : (k : Int) + 1 ≤ (s.size : Int) := by omega
          obtain ⟨j, hj⟩ : ∃ j, j = k - 1 := ⟨_, rfl⟩
          have hj1 : (k : Int) - 1 = (j : Int) := by omega
          have hjs : j < s.size := by omega
          have hbl := get_list s j hjs
          generalize hsl : s[j] = bl at hbl
          have hbn : (s.extract 0 k).toList[k - 1]? = some bl := by
            rw [ext_head, List.getElem?_take_of_lt (by omega), ← hj]
            exact hbl
          go_upto_region 7 with fail
          have hbq := heap_alloc_new w1 (.cells #[.string (s.extract 0 k), .bool false, .slice none 0 0] 30 (0, 0))
          have hx4 := Ext.alloc w1 (.cells #[.string (s.extract 0 k), .bool false, .slice none 0 0] 30)
          generalize w1.alloc (.cells #[.string (s.extract 0 k), .bool false, .slice none 0 0] 30) = v4 at hbq hx4 ⊢
          obtain ⟨q, hq⟩ : ∃ q, q = w1.heap.size := ⟨_, rfl⟩
          rw [← hq] at hbq
          rw [← hq]
          have HX4 := Lib.hid (HX1.out.trans hx4)
          have HR4 := Lib.hid ((Cm.of_ext hx4).cells _ _ _ _ HR1.out)
          have HQ4 := Lib.hid hbq
          have hqr : q ≠ r := by omega
          have HQW : Hid (w.heap.size ≤ q) := Lib.hid (by have := HX1.out.size; omega)
          have hrz4 : r + 1 ≤ v4.heap.size := by have := hx4.size; omega
          have hok0 : okS (s.extract 0 k) := by unfold okS; rw [ByteArray.size_extract]; omega
          have hokj : okS (s.extract 0 j) := by unfold okS; rw [ByteArray.size_extract]; omega
          clear hbq hx4 hq d0 d1 d2 f0 f1 f2 hrl1 hk0
          obtain ⟨q0, q1, q2⟩ := tm_cells HQ4.out (Ext.refl _)
          by_cases h33 : bl = 33
          · have HTN : Hid (∀ vs, backs (innerL (s.toList.drop (k + 1))) = vs → termL (s.toList.take k) (s.toList.drop (k + 1)) = ⟨s.extract 0 j, true, vs⟩) := Lib.hid (by
              rintro vs rfl
              unfold termL
              rw [if_pos (by unfold endsN; rw [List.length_take, size_list, Nat.min_eq_left (by omega), List.getElem?_take_of_lt (by omega), ← hj, hbl, h33]; rfl)]
              congr 1
              refine bytes_ext ?_
              rw [toList_mk, ext_head, List.length_take, size_list, Nat.min_eq_left (by omega), List.take_take, hj]
              congr 1
              omega)
            have f0 := heap_frozen HQ4.out 0
            have f1 := heap_frozen HQ4.out 1
            have hjS : (j : Int) ≤ (s.size : Int) := by omega
            have hj0 : (0 : Int) ≤ (j : Int) := by omega
            subst h33
            clear hbl hbn hj
            go_upto_region 10 with fail
            obtain ⟨g1, gk1⟩ := store_at (i := 1) (.bool true) HQ4.out
            obtain ⟨g2, gk2⟩ := store_at (i := 0) (.string (s.extract 0 j)) g1
            have gk := gk1.and gk2
            generalize (v4.setCell ⟨q, 1, none⟩ (.bool true)).setCell ⟨q, 0, none⟩ (.string (s.extract 0 j)) = v6 at g2 gk ⊢
            have HQ6 : Hid (v6.heap[q]? = some (.cells #[.string (s.extract 0 j), .bool true, .slice none 0 0] 30 (0, 0))) := Lib.hid g2
            have HX6 := Lib.hid (gk.to_ext HX4.out (by simpa using HQW.out))
            have HR6 := Lib.hid (gk.heap HR4.out (by simpa using fun e => hqr e.symm))
            have HRZ : Hid (r + 1 ≤ v6.heap.size) := Lib.hid (Nat.le_trans hrz4 gk.size)
            clear g1 g2 gk gk1 gk2 q0 q1 q2 f0 f1
            obtain ⟨q0, q1, q2⟩ := tm_cells HQ6.out (Ext.refl _)
            go_upto_region 11 with fail
            have hRl := ext_tail s (k + 1)
            have hRz : (s.extract (k + 1) s.size).size ≤ 100000 := by rw [ByteArray.size_extract]; omega
            generalize s.extract (k + 1) s.size = R at hRl hRz ⊢
            have HRL := Lib.hid hRl
            clear hRl
            by_cases hR0 : R.size = 0
            · have HINN : Hid (innerL R.toList = []) := Lib.hid (by rw [size_zero hR0]; rfl)
              have HT : Hid (termL (s.toList.take k) (s.toList.drop (k + 1)) = ⟨(s.extract 0 j), true, []⟩) := Lib.hid (HTN.out _ (by rw [← HRL.out, HINN.out]; rfl))
              have hR0I : decide ((0 : Int) < (R.size : Int)) = false := decide_eq_false (by omega)
              have hR0J : decide (0 < R.size) = false := decide_eq_false (by omega)
              have HU9 : Hid (Vls v6 (.slice none 0 0) []) := Lib.hid (vls_nil _)
              have HFU : Hid (Far (r + 1) (.slice none 0 0)) := Lib.hid (far_none _ _ _)
              have HVO : Hid (∀ v ∈ ([] : List ByteArray), okS v) := Lib.hid (by simp)
              clear hR0 HINN
              go_wp2_with fail
              refine (rright_term ⟨(s.extract 0 j), true, ([] : List ByteArray)⟩ (.slice none 0 0) v6 HU9.out.txt ⟨by assumption, HVO.out⟩).mono ?_
              rintro e v5 ⟨rfl, hx⟩
              have HX5 := Lib.hid (HX6.out.trans hx)
              have HR5 := Lib.hid ((Cm.of_ext hx).cells _ _ _ _ HR6.out)
              have HU5 := Lib.hid (HU9.out.ext hx)
              clear q0 q1 q2
              obtain ⟨q0, q1, q2⟩ := tm_cells HQ6.out hx
              have f0 := heap_frozen HR5.out 0
              have f1 := heap_frozen HR5.out 1
              have f2 := heap_frozen HR5.out 2
              have d0 := heap_cell HR5.out 0
              have d1 := heap_cell HR5.out 1
              have d2 := heap_cell HR5.out 2
              clear hx
              cases hrt : rightT ⟨(s.extract 0 j), true, ([] : List ByteArray)⟩ with
              | false =>
                have HP : Hid (parseB s = none) := Lib.hid (HPN.out (by rw [HT.out]; exact hrt))
                clear hrt
                go_wp2_with fail
                have hres := set3 (a' := .string ⟨#[]⟩) (b' := .bool false) (c' := .slice none 0 0) HR5.out
                have e0 := heap_cell hres 0
                have e1 := heap_cell hres 1
                have e2 := heap_cell hres 2
                refine bodyPost_ret (v := .tuple #[.agg #[.string ⟨#[]⟩, .bool false, .slice none 0 0], .int .i64 4]) ?_ rfl ⟨.inl ⟨HP.out, rfl⟩, kp3.to_ext HX5.out (by simpa using HRW.out)⟩
                simp [results, Try.results23, go_sem, e0, e1, e2]
              | true =>
                have HP : Hid (parseB s = some ⟨(s.extract 0 j), true, ([] : List ByteArray)⟩) := Lib.hid (by rw [← HT.out]; exact HPY.out (by rw [HT.out]; exact hrt))
                clear hrt
                go_wp2_with fail
                have hres := set3 (a' := .string (s.extract 0 j)) (b' := .bool true) (c' := .slice none 0 0) HR5.out
                have e0 := heap_cell hres 0
                have e1 := heap_cell hres 1
                have e2 := heap_cell hres 2
                refine bodyPost_ret (v := .tuple #[.agg #[.string (s.extract 0 j), .bool true, .slice none 0 0], .int .i64 0]) ?_ rfl ⟨.inr ⟨_, _, HP.out, rfl, ?_⟩, kp3.to_ext HX5.out (by simpa using HRW.out)⟩
                · simp [results, Try.results23, go_sem, e0, e1, e2]
                · exact par_txt kp3 HU5.out HFU.out HRV.out
            · have hR0I : (0 : Int) < (R.size : Int) := by omega
              have hR1I : (0 : Int) ≤ (R.size : Int) - 1 := by omega
              have hR2I : (R.size : Int) - 1 < (R.size : Int) := by omega
              have hr0 := get_list R 0 (by omega)
              have hrl := get_list R (R.size - 1) (by omega)
              generalize hsr0 : R[0] = r0 at hr0
              generalize hsrl : R[R.size - 1] = rl at hrl
              have HR0 := Lib.hid hr0
              have HRLA := Lib.hid hrl
              clear hr0 hrl
              by_cases h40 : r0 = 40
              · by_cases h41 : rl = 41
                · have hz1 : R.size ≠ 1 := by
                    intro h1
                    have := HRLA.out
                    rw [h1] at this
                    rw [show (1 : Nat) - 1 = 0 from rfl, HR0.out, h40, h41] at this
                    cases this
                  have HPA : Hid (parenL R.toList = true) := Lib.hid (by rw [paren_at (by omega), HR0.out, HRLA.out, h40, h41]; rfl)
                  have HT : Hid (termL (s.toList.take k) (s.toList.drop (k + 1)) = ⟨(s.extract 0 j), true, backs (splL (R.extract 1 (R.size - 1)).toList)⟩) := Lib.hid (HTN.out _ (by rw [← HRL.out, inner_open HPA.out]))
                  have hz2I : (1 : Int) ≤ (R.size : Int) - 1 := by omega
                  have hz3I : (R.size : Int) - 1 ≤ (R.size : Int) := by omega
                  have hz4I : (1 : Int) ≤ (R.size : Int) := by omega
                  have HVO : Hid (∀ v ∈ backs (splL (R.extract 1 (R.size - 1)).toList), okS v) := Lib.hid (by rw [← inner_open HPA.out]; exact inner_ok R (by omega))
                  have hEz : (R.extract 1 (R.size - 1)).size ≤ 100000 := by rw [ByteArray.size_extract]; omega
                  subst h40 h41
                  clear hz1 hR0
                  go_wp2_with fail
                  refine (rcut_any (R.extract 1 (R.size - 1)) v6 hEz).mono ?_
                  rintro e v7 ⟨u, rfl, hu, hfu, hx⟩
                  have HU7 := Lib.hid hu
                  obtain ⟨A3, n3, c3, rfl, _⟩ := hu.txt
                  have hq7 := (Cm.of_ext hx).cells _ _ _ _ HQ6.out
                  have HX7 := Lib.hid (HX6.out.trans hx)
                  have HR7 := Lib.hid ((Cm.of_ext hx).cells _ _ _ _ HR6.out)
                  have HFU := Lib.hid (hfu.mono HRZ.out)
                  have HFQ := Lib.hid hfu
                  have HQL : Hid (q < v6.heap.size) := Lib.hid (Array.getElem?_eq_some_iff.1 HQ6.out).1
                  have f0 := heap_frozen hq7 2
                  have HQ7 := Lib.hid hq7
                  clear hfu hx q0 q1 q2
                  obtain ⟨q0, q1, q2⟩ := tm_cells hq7 (Ext.refl _)
                  clear hq7
                  go_upto_region 18 with fail
                  obtain ⟨g1, gk⟩ := store_at (i := 2) (.slice A3 n3 c3) HQ7.out
                  have HU8 := Lib.hid (HU7.out.ext (Ext.refl _))
                  generalize hv8 : v7.setCell ⟨q, 2, none⟩ (.slice A3 n3 c3) = v8 at g1 gk ⊢
                  have HQ8 : Hid (v8.heap[q]? = some (.cells #[.string (s.extract 0 j), .bool true, .slice A3 n3 c3] 30 (0, 0))) := Lib.hid g1
                  have HX8 := Lib.hid (gk.to_ext HX7.out (by simpa using HQW.out))
                  have HR8 := Lib.hid (gk.heap HR7.out (by simpa using fun e => hqr e.symm))
                  have HU9 := Lib.hid (par_txt gk HU7.out HFQ.out HQL.out)
                  clear g1 gk q0 q1 q2 f0 hv8
                  obtain ⟨q0, q1, q2⟩ := tm_cells HQ8.out (Ext.refl _)
                  go_wp2_with fail
                  refine (rright_term ⟨(s.extract 0 j), true, (backs (splL (R.extract 1 (R.size - 1)).toList))⟩ (.slice A3 n3 c3) v8 HU9.out.txt ⟨by assumption, HVO.out⟩).mono ?_
                  rintro e v5 ⟨rfl, hx⟩
                  have HX5 := Lib.hid (HX8.out.trans hx)
                  have HR5 := Lib.hid ((Cm.of_ext hx).cells _ _ _ _ HR8.out)
                  have HU5 := Lib.hid (HU9.out.ext hx)
                  clear q0 q1 q2
                  obtain ⟨q0, q1, q2⟩ := tm_cells HQ8.out hx
                  have f0 := heap_frozen HR5.out 0
                  have f1 := heap_frozen HR5.out 1
                  have f2 := heap_frozen HR5.out 2
                  have d0 := heap_cell HR5.out 0
                  have d1 := heap_cell HR5.out 1
                  have d2 := heap_cell HR5.out 2
                  clear hx
                  cases hrt : rightT ⟨(s.extract 0 j), true, (backs (splL (R.extract 1 (R.size - 1)).toList))⟩ with
                  | false =>
                    have HP : Hid (parseB s = none) := Lib.hid (HPN.out (by rw [HT.out]; exact hrt))
                    clear hrt
                    go_wp2_with fail
                    have hres := set3 (a' := .string ⟨#[]⟩) (b' := .bool false) (c' := .slice none 0 0) HR5.out
                    have e0 := heap_cell hres 0
                    have e1 := heap_cell hres 1
                    have e2 := heap_cell hres 2
                    refine bodyPost_ret (v := .tuple #[.agg #[.string ⟨#[]⟩, .bool false, .slice none 0 0], .int .i64 4]) ?_ rfl ⟨.inl ⟨HP.out, rfl⟩, kp3.to_ext HX5.out (by simpa using HRW.out)⟩
                    simp [results, Try.results23, go_sem, e0, e1, e2]
                  | true =>
                    have HP : Hid (parseB s = some ⟨(s.extract 0 j), true, (backs (splL (R.extract 1 (R.size - 1)).toList))⟩) := Lib.hid (by rw [← HT.out]; exact HPY.out (by rw [HT.out]; exact hrt))
                    clear hrt
                    go_wp2_with fail
                    have hres := set3 (a' := .string (s.extract 0 j)) (b' := .bool true) (c' := .slice A3 n3 c3) HR5.out
                    have e0 := heap_cell hres 0
                    have e1 := heap_cell hres 1
                    have e2 := heap_cell hres 2
                    refine bodyPost_ret (v := .tuple #[.agg #[.string (s.extract 0 j), .bool true, .slice A3 n3 c3], .int .i64 0]) ?_ rfl ⟨.inr ⟨_, _, HP.out, rfl, ?_⟩, kp3.to_ext HX5.out (by simpa using HRW.out)⟩
                    · simp [results, Try.results23, go_sem, e0, e1, e2]
                    · exact par_txt kp3 HU5.out HFU.out HRV.out
                · have HP : Hid (parseB s = none) := Lib.hid (parse_open HC.out HRL.out (by
                      by_cases h1 : R.size = 1
                      · unfold parenL
                        rw [size_list, h1]
                        simp
                      · rw [paren_at (by omega), HRLA.out, decide_eq_false (p := some rl = some 41) (by simpa using h41), Bool.and_false]) hR0 (by rw [HR0.out, h40]))
                  have e1 : ((rl.toNat : Int) == 41) = false := byte_ne_int h41
                  have e2 : ((rl.toNat : Int) != 41) = true := by rw [bne, e1]; rfl
                  have f0 := heap_frozen HR6.out 0
                  have f1 := heap_frozen HR6.out 1
                  have f2 := heap_frozen HR6.out 2
                  have d0 := heap_cell HR6.out 0
                  have d1 := heap_cell HR6.out 1
                  have d2 := heap_cell HR6.out 2
                  subst h40
                  clear h41 hR0
                  go_wp2_with fail
                  have hres := set3 (a' := .string ⟨#[]⟩) (b' := .bool false) (c' := .slice none 0 0) HR6.out
                  have e0 := heap_cell hres 0
                  have e1 := heap_cell hres 1
                  have e2 := heap_cell hres 2
                  refine bodyPost_ret (v := .tuple #[.agg #[.string ⟨#[]⟩, .bool false, .slice none 0 0], .int .i64 4]) ?_ rfl ⟨.inl ⟨HP.out, rfl⟩, kp3.to_ext HX6.out (by simpa using HRW.out)⟩
                  simp [results, Try.results23, go_sem, e0, e1, e2]
              · have e1 : ((r0.toNat : Int) == 40) = false := byte_ne_int h40
                have e2 : ((r0.toNat : Int) != 40) = true := by rw [bne, e1]; rfl
                have HT : Hid (termL (s.toList.take k) (s.toList.drop (k + 1)) = ⟨(s.extract 0 j), true, [R]⟩) := Lib.hid (HTN.out _ (by
                  rw [← HRL.out, inner_one (by unfold parenL; rw [HR0.out, decide_eq_false (p := some r0 = some 40) (by simpa using h40)]; rfl) hR0, backs_one]))
                have HVO : Hid (∀ v ∈ [R], okS v) := Lib.hid (by intro v hv; simp at hv; subst hv; unfold okS; omega)
                clear h40 hR0
                have ha7 := Ext.alloc v6 (.cells #[.string R] 9)
                have ht7 := vls_one v6 R
                have HX7 := Lib.hid (HX6.out.trans ha7)
                have HR7 := Lib.hid ((Cm.of_ext ha7).cells _ _ _ _ HR6.out)
                have HQ7 := Lib.hid ((Cm.of_ext ha7).cells _ _ _ _ HQ6.out)
                have HFQ : Hid (Far v6.heap.size (.slice (some ⟨v6.heap.size, 0, none⟩) 1 1)) := Lib.hid (far_new (Nat.le_refl _) _ _)
                have HFU := Lib.hid (HFQ.out.mono HRZ.out)
                have HQL : Hid (q < v6.heap.size) := Lib.hid (Array.getElem?_eq_some_iff.1 HQ6.out).1
                have HU7 := Lib.hid ht7
                have f0 := heap_frozen HQ7.out 2
                have q3 := heap_cell HQ7.out 2
                clear ht7 ha7
                go_upto_region 18 with fail
                obtain ⟨g1, gk⟩ := store_at (i := 2) (.slice (some ⟨v6.heap.size, 0, none⟩) 1 1) HQ7.out
                have HU9 := Lib.hid (par_txt gk HU7.out HFQ.out HQL.out)
                have HQ8' := Lib.hid g1
                have HX8 := Lib.hid (gk.to_ext HX7.out (by simpa using HQW.out))
                have HR8 := Lib.hid (gk.heap HR7.out (by simpa using fun e => hqr e.symm))
                generalize (v6.alloc (.cells #[.string R] 9)).setCell ⟨q, 2, none⟩ (.slice (some ⟨v6.heap.size, 0, none⟩) 1 1) = v8 at HU9 HQ8' HX8 HR8 ⊢
                have HQ8 : Hid (v8.heap[q]? = some (.cells #[.string (s.extract 0 j), .bool true, .slice (some ⟨v6.heap.size, 0, none⟩) 1 1] 30 (0, 0))) := HQ8'
                clear g1 gk q0 q1 q2 q3 f0
                obtain ⟨q0, q1, q2⟩ := tm_cells HQ8.out (Ext.refl _)
                go_wp2_with fail
                refine (rright_term ⟨(s.extract 0 j), true, [R]⟩ (.slice (some ⟨v6.heap.size, 0, none⟩) 1 1) v8 HU9.out.txt ⟨by assumption, HVO.out⟩).mono ?_
                rintro e v5 ⟨rfl, hx⟩
                have HX5 := Lib.hid (HX8.out.trans hx)
                have HR5 := Lib.hid ((Cm.of_ext hx).cells _ _ _ _ HR8.out)
                have HU5 := Lib.hid (HU9.out.ext hx)
                clear q0 q1 q2
                obtain ⟨q0, q1, q2⟩ := tm_cells HQ8.out hx
                have f0 := heap_frozen HR5.out 0
                have f1 := heap_frozen HR5.out 1
                have f2 := heap_frozen HR5.out 2
                have d0 := heap_cell HR5.out 0
                have d1 := heap_cell HR5.out 1
                have d2 := heap_cell HR5.out 2
                clear hx
                cases hrt : rightT ⟨(s.extract 0 j), true, [R]⟩ with
                | false =>
                  have HP : Hid (parseB s = none) := Lib.hid (HPN.out (by rw [HT.out]; exact hrt))
                  clear hrt
                  go_wp2_with fail
                  have hres := set3 (a' := .string ⟨#[]⟩) (b' := .bool false) (c' := .slice none 0 0) HR5.out
                  have e0 := heap_cell hres 0
                  have e1 := heap_cell hres 1
                  have e2 := heap_cell hres 2
                  refine bodyPost_ret (v := .tuple #[.agg #[.string ⟨#[]⟩, .bool false, .slice none 0 0], .int .i64 4]) ?_ rfl ⟨.inl ⟨HP.out, rfl⟩, kp3.to_ext HX5.out (by simpa using HRW.out)⟩
                  simp [results, Try.results23, go_sem, e0, e1, e2]
                | true =>
                  have HP : Hid (parseB s = some ⟨(s.extract 0 j), true, [R]⟩) := Lib.hid (by rw [← HT.out]; exact HPY.out (by rw [HT.out]; exact hrt))
                  clear hrt
                  go_wp2_with fail
                  have hres := set3 (a' := .string (s.extract 0 j)) (b' := .bool true) (c' := .slice (some ⟨v6.heap.size, 0, none⟩) 1 1) HR5.out
                  have e0 := heap_cell hres 0
                  have e1 := heap_cell hres 1
                  have e2 := heap_cell hres 2
                  refine bodyPost_ret (v := .tuple #[.agg #[.string (s.extract 0 j), .bool true, .slice (some ⟨v6.heap.size, 0, none⟩) 1 1], .int .i64 0]) ?_ rfl ⟨.inr ⟨_, _, HP.out, rfl, ?_⟩, kp3.to_ext HX5.out (by simpa using HRW.out)⟩
                  · simp [results, Try.results23, go_sem, e0, e1, e2]
                  · exact par_txt kp3 HU5.out HFU.out HRV.out
          · have HTN : Hid (∀ vs, backs (innerL (s.toList.drop (k + 1))) = vs → termL (s.toList.take k) (s.toList.drop (k + 1)) = ⟨s.extract 0 k, false, vs⟩) := Lib.hid (by
              rintro vs rfl
              unfold termL
              rw [if_neg (by unfold endsN; rw [List.length_take, size_list, Nat.min_eq_left (by omega), List.getElem?_take_of_lt (by omega), ← hj, hbl]; simpa using h33)]
              congr 1
              refine bytes_ext ?_
              rw [toList_mk, ext_head])
            have e1 : ((bl.toNat : Int) == 33) = false := byte_ne_int h33
            have HQ6 := HQ4
            have HX6 := HX4
            have HR6 := HR4
            have HRZ := Lib.hid hrz4
            clear hbl hbn hj h33 HQ4 HX4 HR4
            rename World => v6
            go_upto_region 11 with fail
            have hRl := ext_tail s (k + 1)
            have hRz : (s.extract (k + 1) s.size).size ≤ 100000 := by rw [ByteArray.size_extract]; omega
            generalize s.extract (k + 1) s.size = R at hRl hRz ⊢
            have HRL := Lib.hid hRl
            clear hRl
            by_cases hR0 : R.size = 0
            · have HINN : Hid (innerL R.toList = []) := Lib.hid (by rw [size_zero hR0]; rfl)
              have HT : Hid (termL (s.toList.take k) (s.toList.drop (k + 1)) = ⟨(s.extract 0 k), false, []⟩) := Lib.hid (HTN.out _ (by rw [← HRL.out, HINN.out]; rfl))
              have hR0I : decide ((0 : Int) < (R.size : Int)) = false := decide_eq_false (by omega)
              have hR0J : decide (0 < R.size) = false := decide_eq_false (by omega)
              have HU9 : Hid (Vls v6 (.slice none 0 0) []) := Lib.hid (vls_nil _)
              have HFU : Hid (Far (r + 1) (.slice none 0 0)) := Lib.hid (far_none _ _ _)
              have HVO : Hid (∀ v ∈ ([] : List ByteArray), okS v) := Lib.hid (by simp)
              clear hR0 HINN
              go_wp2_with fail
              refine (rright_term ⟨(s.extract 0 k), false, ([] : List ByteArray)⟩ (.slice none 0 0) v6 HU9.out.txt ⟨by assumption, HVO.out⟩).mono ?_
              rintro e v5 ⟨rfl, hx⟩
              have HX5 := Lib.hid (HX6.out.trans hx)
              have HR5 := Lib.hid ((Cm.of_ext hx).cells _ _ _ _ HR6.out)
              have HU5 := Lib.hid (HU9.out.ext hx)
              clear q0 q1 q2
              obtain ⟨q0, q1, q2⟩ := tm_cells HQ6.out hx
              have f0 := heap_frozen HR5.out 0
              have f1 := heap_frozen HR5.out 1
              have f2 := heap_frozen HR5.out 2
              have d0 := heap_cell HR5.out 0
              have d1 := heap_cell HR5.out 1
              have d2 := heap_cell HR5.out 2
              clear hx
              cases hrt : rightT ⟨(s.extract 0 k), false, ([] : List ByteArray)⟩ with
              | false =>
                have HP : Hid (parseB s = none) := Lib.hid (HPN.out (by rw [HT.out]; exact hrt))
                clear hrt
                go_wp2_with fail
                have hres := set3 (a' := .string ⟨#[]⟩) (b' := .bool false) (c' := .slice none 0 0) HR5.out
                have e0 := heap_cell hres 0
                have e1 := heap_cell hres 1
                have e2 := heap_cell hres 2
                refine bodyPost_ret (v := .tuple #[.agg #[.string ⟨#[]⟩, .bool false, .slice none 0 0], .int .i64 4]) ?_ rfl ⟨.inl ⟨HP.out, rfl⟩, kp3.to_ext HX5.out (by simpa using HRW.out)⟩
                simp [results, Try.results23, go_sem, e0, e1, e2]
              | true =>
                have HP : Hid (parseB s = some ⟨(s.extract 0 k), false, ([] : List ByteArray)⟩) := Lib.hid (by rw [← HT.out]; exact HPY.out (by rw [HT.out]; exact hrt))
                clear hrt
                go_wp2_with fail
                have hres := set3 (a' := .string (s.extract 0 k)) (b' := .bool false) (c' := .slice none 0 0) HR5.out
                have e0 := heap_cell hres 0
                have e1 := heap_cell hres 1
                have e2 := heap_cell hres 2
                refine bodyPost_ret (v := .tuple #[.agg #[.string (s.extract 0 k), .bool false, .slice none 0 0], .int .i64 0]) ?_ rfl ⟨.inr ⟨_, _, HP.out, rfl, ?_⟩, kp3.to_ext HX5.out (by simpa using HRW.out)⟩
                · simp [results, Try.results23, go_sem, e0, e1, e2]
                · exact par_txt kp3 HU5.out HFU.out HRV.out
            · have hR0I : (0 : Int) < (R.size : Int) := by omega
              have hR1I : (0 : Int) ≤ (R.size : Int) - 1 := by omega
              have hR2I : (R.size : Int) - 1 < (R.size : Int) := by omega
              have hr0 := get_list R 0 (by omega)
              have hrl := get_list R (R.size - 1) (by omega)
              generalize hsr0 : R[0] = r0 at hr0
              generalize hsrl : R[R.size - 1] = rl at hrl
              have HR0 := Lib.hid hr0
              have HRLA := Lib.hid hrl
              clear hr0 hrl
              by_cases h40 : r0 = 40
              · by_cases h41 : rl = 41
                · have hz1 : R.size ≠ 1 := by
                    intro h1
                    have := HRLA.out
                    rw [h1] at this
                    rw [show (1 : Nat) - 1 = 0 from rfl, HR0.out, h40, h41] at this
                    cases this
                  have HPA : Hid (parenL R.toList = true) := Lib.hid (by rw [paren_at (by omega), HR0.out, HRLA.out, h40, h41]; rfl)
                  have HT : Hid (termL (s.toList.take k) (s.toList.drop (k + 1)) = ⟨(s.extract 0 k), false, backs (splL (R.extract 1 (R.size - 1)).toList)⟩) := Lib.hid (HTN.out _ (by rw [← HRL.out, inner_open HPA.out]))
                  have hz2I : (1 : Int) ≤ (R.size : Int) - 1 := by omega
                  have hz3I : (R.size : Int) - 1 ≤ (R.size : Int) := by omega
                  have hz4I : (1 : Int) ≤ (R.size : Int) := by omega
                  have HVO : Hid (∀ v ∈ backs (splL (R.extract 1 (R.size - 1)).toList), okS v) := Lib.hid (by rw [← inner_open HPA.out]; exact inner_ok R (by omega))
                  have hEz : (R.extract 1 (R.size - 1)).size ≤ 100000 := by rw [ByteArray.size_extract]; omega
                  subst h40 h41
                  clear hz1 hR0
                  go_wp2_with fail
                  refine (rcut_any (R.extract 1 (R.size - 1)) v6 hEz).mono ?_
                  rintro e v7 ⟨u, rfl, hu, hfu, hx⟩
                  have HU7 := Lib.hid hu
                  obtain ⟨A3, n3, c3, rfl, _⟩ := hu.txt
                  have hq7 := (Cm.of_ext hx).cells _ _ _ _ HQ6.out
                  have HX7 := Lib.hid (HX6.out.trans hx)
                  have HR7 := Lib.hid ((Cm.of_ext hx).cells _ _ _ _ HR6.out)
                  have HFU := Lib.hid (hfu.mono HRZ.out)
                  have HFQ := Lib.hid hfu
                  have HQL : Hid (q < v6.heap.size) := Lib.hid (Array.getElem?_eq_some_iff.1 HQ6.out).1
                  have f0 := heap_frozen hq7 2
                  have HQ7 := Lib.hid hq7
                  clear hfu hx q0 q1 q2
                  obtain ⟨q0, q1, q2⟩ := tm_cells hq7 (Ext.refl _)
                  clear hq7
                  go_upto_region 18 with fail
                  obtain ⟨g1, gk⟩ := store_at (i := 2) (.slice A3 n3 c3) HQ7.out
                  have HU8 := Lib.hid (HU7.out.ext (Ext.refl _))
                  generalize hv8 : v7.setCell ⟨q, 2, none⟩ (.slice A3 n3 c3) = v8 at g1 gk ⊢
                  have HQ8 : Hid (v8.heap[q]? = some (.cells #[.string (s.extract 0 k), .bool false, .slice A3 n3 c3] 30 (0, 0))) := Lib.hid g1
                  have HX8 := Lib.hid (gk.to_ext HX7.out (by simpa using HQW.out))
                  have HR8 := Lib.hid (gk.heap HR7.out (by simpa using fun e => hqr e.symm))
                  have HU9 := Lib.hid (par_txt gk HU7.out HFQ.out HQL.out)
                  clear g1 gk q0 q1 q2 f0 hv8
                  obtain ⟨q0, q1, q2⟩ := tm_cells HQ8.out (Ext.refl _)
                  go_wp2_with fail
                  refine (rright_term ⟨(s.extract 0 k), false, (backs (splL (R.extract 1 (R.size - 1)).toList))⟩ (.slice A3 n3 c3) v8 HU9.out.txt ⟨by assumption, HVO.out⟩).mono ?_
                  rintro e v5 ⟨rfl, hx⟩
                  have HX5 := Lib.hid (HX8.out.trans hx)
                  have HR5 := Lib.hid ((Cm.of_ext hx).cells _ _ _ _ HR8.out)
                  have HU5 := Lib.hid (HU9.out.ext hx)
                  clear q0 q1 q2
                  obtain ⟨q0, q1, q2⟩ := tm_cells HQ8.out hx
                  have f0 := heap_frozen HR5.out 0
                  have f1 := heap_frozen HR5.out 1
                  have f2 := heap_frozen HR5.out 2
                  have d0 := heap_cell HR5.out 0
                  have d1 := heap_cell HR5.out 1
                  have d2 := heap_cell HR5.out 2
                  clear hx
                  cases hrt : rightT ⟨(s.extract 0 k), false, (backs (splL (R.extract 1 (R.size - 1)).toList))⟩ with
                  | false =>
                    have HP : Hid (parseB s = none) := Lib.hid (HPN.out (by rw [HT.out]; exact hrt))
                    clear hrt
                    go_wp2_with fail
                    have hres := set3 (a' := .string ⟨#[]⟩) (b' := .bool false) (c' := .slice none 0 0) HR5.out
                    have e0 := heap_cell hres 0
                    have e1 := heap_cell hres 1
                    have e2 := heap_cell hres 2
                    refine bodyPost_ret (v := .tuple #[.agg #[.string ⟨#[]⟩, .bool false, .slice none 0 0], .int .i64 4]) ?_ rfl ⟨.inl ⟨HP.out, rfl⟩, kp3.to_ext HX5.out (by simpa using HRW.out)⟩
                    simp [results, Try.results23, go_sem, e0, e1, e2]
                  | true =>
                    have HP : Hid (parseB s = some ⟨(s.extract 0 k), false, (backs (splL (R.extract 1 (R.size - 1)).toList))⟩) := Lib.hid (by rw [← HT.out]; exact HPY.out (by rw [HT.out]; exact hrt))
                    clear hrt
                    go_wp2_with fail
                    have hres := set3 (a' := .string (s.extract 0 k)) (b' := .bool false) (c' := .slice A3 n3 c3) HR5.out
                    have e0 := heap_cell hres 0
                    have e1 := heap_cell hres 1
                    have e2 := heap_cell hres 2
                    refine bodyPost_ret (v := .tuple #[.agg #[.string (s.extract 0 k), .bool false, .slice A3 n3 c3], .int .i64 0]) ?_ rfl ⟨.inr ⟨_, _, HP.out, rfl, ?_⟩, kp3.to_ext HX5.out (by simpa using HRW.out)⟩
                    · simp [results, Try.results23, go_sem, e0, e1, e2]
                    · exact par_txt kp3 HU5.out HFU.out HRV.out
                · have HP : Hid (parseB s = none) := Lib.hid (parse_open HC.out HRL.out (by
                      by_cases h1 : R.size = 1
                      · unfold parenL
                        rw [size_list, h1]
                        simp
                      · rw [paren_at (by omega), HRLA.out, decide_eq_false (p := some rl = some 41) (by simpa using h41), Bool.and_false]) hR0 (by rw [HR0.out, h40]))
                  have e1 : ((rl.toNat : Int) == 41) = false := byte_ne_int h41
                  have e2 : ((rl.toNat : Int) != 41) = true := by rw [bne, e1]; rfl
                  have f0 := heap_frozen HR6.out 0
                  have f1 := heap_frozen HR6.out 1
                  have f2 := heap_frozen HR6.out 2
                  have d0 := heap_cell HR6.out 0
                  have d1 := heap_cell HR6.out 1
                  have d2 := heap_cell HR6.out 2
                  subst h40
                  clear h41 hR0
                  go_wp2_with fail
                  have hres := set3 (a' := .string ⟨#[]⟩) (b' := .bool false) (c' := .slice none 0 0) HR6.out
                  have e0 := heap_cell hres 0
                  have e1 := heap_cell hres 1
                  have e2 := heap_cell hres 2
                  refine bodyPost_ret (v := .tuple #[.agg #[.string ⟨#[]⟩, .bool false, .slice none 0 0], .int .i64 4]) ?_ rfl ⟨.inl ⟨HP.out, rfl⟩, kp3.to_ext HX6.out (by simpa using HRW.out)⟩
                  simp [results, Try.results23, go_sem, e0, e1, e2]
              · have e1 : ((r0.toNat : Int) == 40) = false := byte_ne_int h40
                have e2 : ((r0.toNat : Int) != 40) = true := by rw [bne, e1]; rfl
                have HT : Hid (termL (s.toList.take k) (s.toList.drop (k + 1)) = ⟨(s.extract 0 k), false, [R]⟩) := Lib.hid (HTN.out _ (by
                  rw [← HRL.out, inner_one (by unfold parenL; rw [HR0.out, decide_eq_false (p := some r0 = some 40) (by simpa using h40)]; rfl) hR0, backs_one]))
                have HVO : Hid (∀ v ∈ [R], okS v) := Lib.hid (by intro v hv; simp at hv; subst hv; unfold okS; omega)
                clear h40 hR0
                have ha7 := Ext.alloc v6 (.cells #[.string R] 9)
                have ht7 := vls_one v6 R
                have HX7 := Lib.hid (HX6.out.trans ha7)
                have HR7 := Lib.hid ((Cm.of_ext ha7).cells _ _ _ _ HR6.out)
                have HQ7 := Lib.hid ((Cm.of_ext ha7).cells _ _ _ _ HQ6.out)
                have HFQ : Hid (Far v6.heap.size (.slice (some ⟨v6.heap.size, 0, none⟩) 1 1)) := Lib.hid (far_new (Nat.le_refl _) _ _)
                have HFU := Lib.hid (HFQ.out.mono HRZ.out)
                have HQL : Hid (q < v6.heap.size) := Lib.hid (Array.getElem?_eq_some_iff.1 HQ6.out).1
                have HU7 := Lib.hid ht7
                have f0 := heap_frozen HQ7.out 2
                have q3 := heap_cell HQ7.out 2
                clear ht7 ha7
                go_upto_region 18 with fail
                obtain ⟨g1, gk⟩ := store_at (i := 2) (.slice (some ⟨v6.heap.size, 0, none⟩) 1 1) HQ7.out
                have HU9 := Lib.hid (par_txt gk HU7.out HFQ.out HQL.out)
                have HQ8' := Lib.hid g1
                have HX8 := Lib.hid (gk.to_ext HX7.out (by simpa using HQW.out))
                have HR8 := Lib.hid (gk.heap HR7.out (by simpa using fun e => hqr e.symm))
                generalize (v6.alloc (.cells #[.string R] 9)).setCell ⟨q, 2, none⟩ (.slice (some ⟨v6.heap.size, 0, none⟩) 1 1) = v8 at HU9 HQ8' HX8 HR8 ⊢
                have HQ8 : Hid (v8.heap[q]? = some (.cells #[.string (s.extract 0 k), .bool false, .slice (some ⟨v6.heap.size, 0, none⟩) 1 1] 30 (0, 0))) := HQ8'
                clear g1 gk q0 q1 q2 q3 f0
                obtain ⟨q0, q1, q2⟩ := tm_cells HQ8.out (Ext.refl _)
                go_wp2_with fail
                refine (rright_term ⟨(s.extract 0 k), false, [R]⟩ (.slice (some ⟨v6.heap.size, 0, none⟩) 1 1) v8 HU9.out.txt ⟨by assumption, HVO.out⟩).mono ?_
                rintro e v5 ⟨rfl, hx⟩
                have HX5 := Lib.hid (HX8.out.trans hx)
                have HR5 := Lib.hid ((Cm.of_ext hx).cells _ _ _ _ HR8.out)
                have HU5 := Lib.hid (HU9.out.ext hx)
                clear q0 q1 q2
                obtain ⟨q0, q1, q2⟩ := tm_cells HQ8.out hx
                have f0 := heap_frozen HR5.out 0
                have f1 := heap_frozen HR5.out 1
                have f2 := heap_frozen HR5.out 2
                have d0 := heap_cell HR5.out 0
                have d1 := heap_cell HR5.out 1
                have d2 := heap_cell HR5.out 2
                clear hx
                cases hrt : rightT ⟨(s.extract 0 k), false, [R]⟩ with
                | false =>
                  have HP : Hid (parseB s = none) := Lib.hid (HPN.out (by rw [HT.out]; exact hrt))
                  clear hrt
                  go_wp2_with fail
                  have hres := set3 (a' := .string ⟨#[]⟩) (b' := .bool false) (c' := .slice none 0 0) HR5.out
                  have e0 := heap_cell hres 0
                  have e1 := heap_cell hres 1
                  have e2 := heap_cell hres 2
                  refine bodyPost_ret (v := .tuple #[.agg #[.string ⟨#[]⟩, .bool false, .slice none 0 0], .int .i64 4]) ?_ rfl ⟨.inl ⟨HP.out, rfl⟩, kp3.to_ext HX5.out (by simpa using HRW.out)⟩
                  simp [results, Try.results23, go_sem, e0, e1, e2]
                | true =>
                  have HP : Hid (parseB s = some ⟨(s.extract 0 k), false, [R]⟩) := Lib.hid (by rw [← HT.out]; exact HPY.out (by rw [HT.out]; exact hrt))
                  clear hrt
                  go_wp2_with fail
                  have hres := set3 (a' := .string (s.extract 0 k)) (b' := .bool false) (c' := .slice (some ⟨v6.heap.size, 0, none⟩) 1 1) HR5.out
                  have e0 := heap_cell hres 0
                  have e1 := heap_cell hres 1
                  have e2 := heap_cell hres 2
                  refine bodyPost_ret (v := .tuple #[.agg #[.string (s.extract 0 k), .bool false, .slice (some ⟨v6.heap.size, 0, none⟩) 1 1], .int .i64 0]) ?_ rfl ⟨.inr ⟨_, _, HP.out, rfl, ?_⟩, kp3.to_ext HX5.out (by simpa using HRW.out)⟩
                  · simp [results, Try.results23, go_sem, e0, e1, e2]
                  · exact par_txt kp3 HU5.out HFU.out HRV.out
      · have HA2 := Lib.hid (none_take HA.out hb hbc)
        have e1 : ((b.toNat : Int) == 61) = false := byte_ne_int hbc
        have e2 : ((b.toNat : Int) != 61) = true := by rw [bne, e1]; rfl
        clear hb hbc
        go_wp2_with fail
        go_round
        case rel => exact ⟨k + 1, by omega, by go_num, HA2⟩
        case measure => simp [intOf]; omega
    · obtain rfl : k = s.size := by omega
      have HP : Hid (parseB s = none) := Lib.hid (by
        unfold parseB parseL
        rw [cutL_no (c := 61) (l := s.toList) (by have := HA.out; rwa [List.take_of_length_le (by rw [size_list]; exact Nat.le_refl _)] at this)])
      go_wp2_with fail
      have hres := set3 (a' := .string ⟨#[]⟩) (b' := .bool false) (c' := .slice none 0 0) HR1.out
      have e0 := heap_cell hres 0
      have e1 := heap_cell hres 1
      have e2 := heap_cell hres 2
      refine bodyPost_ret (v := .tuple #[.agg #[.string ⟨#[]⟩, .bool false, .slice none 0 0], .int .i64 4]) ?_ rfl ⟨.inl ⟨HP.out, rfl⟩, kp3.to_ext HX1.out (by simpa using HRW.out)⟩
      simp [results, Try.results23, go_sem, e0, e1, e2]
end Go.Proofs.Ytccjbmmhdbainaa
