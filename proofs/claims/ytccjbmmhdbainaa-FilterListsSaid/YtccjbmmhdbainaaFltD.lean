/- A term's text: package filter. -/
import Derived.Test.YtccjbmmhdbainaaFltV
namespace Go.Proofs.Ytccjbmmhdbainaa
open Go.RowKit Sets
set_option linter.unusedVariables false
set_option linter.unusedSectionVars false
set_option linter.unusedSimpArgs false
set_option maxRecDepth 100000

theorem txts_snoc {vals : List ByteArray} {k : Nat} {v : ByteArray} (h : vals[k]? = some v) : txts (vals.take (k + 1)) = txts (vals.take k) ++ [v.toList] := by
  unfold txts
  rw [take_snoc h, List.map_append]
  rfl
theorem txts_len (vals : List ByteArray) : (txts vals).length = vals.length := List.length_map _
theorem join_zero {vals : List ByteArray} {v : ByteArray} (h : vals[0]? = some v) : joinL (txts (vals.take 1)) = v.toList := by
  rw [txts_snoc h]
  rfl
theorem join_next {vals : List ByteArray} {k : Nat} {v : ByteArray} (h : vals[k]? = some v) (hk : 0 < k) : joinL (txts (vals.take (k + 1))) = joinL (txts (vals.take k)) ++ 44 :: v.toList := by
  have hl := (List.getElem?_eq_some_iff.1 h).1
  rw [txts_snoc h, joinL_snoc, if_neg (by rw [txts_len, List.length_take]; omega)]
theorem word_size {s : ByteArray} (h : wordB s = true) : s.size ≤ 64 := by
  unfold wordB wordL at h
  rw [Bool.and_eq_true, Bool.and_eq_true, decide_eq_true_eq, decide_eq_true_eq, size_list] at h
  exact h.2.2
theorem size_app (a b : ByteArray) : (a ++ b).size = a.size + b.size := by simp
set_option maxHeartbeats 4000000 in
theorem list_any (v : Value) (vals : List ByteArray) (w : World) (h : Txt w v vals) (hw : ∀ x ∈ vals, wordB x = true) (hlen : vals.length ≤ 16) :
    Calls Try.prog 35 #[v] w fun e w' => ∃ s, e = .returned (.string s) ∧ s.toList = listL (txts vals) ∧ Ext w w' := by
  obtain ⟨A, n, c, rfl, hn, hnc, hc, hr⟩ := h
  have HR := Lib.hid hr
  have HN := Lib.hid hn
  have HW := Lib.hid hw
  have hn16 : n ≤ 16 := by omega
  clear hr hn hw
  go_enter Try.func35, Try.ntmps35
  go_wp2_with fail
  go_loopw [3, 8] (fun s i wr => ∃ (k : Nat) (x : ByteArray), k ≤ n ∧ i = .int .i64 (k : Int) ∧ s = .string x ∧ Hid (x.toList = joinL (txts (vals.take k))) ∧ x.size ≤ 65 * k ∧ Ext w wr) (fun _ i _ => n - (intOf i).toNat)
  case atStart => exact ⟨0, ⟨#[]⟩, by omega, rfl, rfl, Lib.hid empty_list, Nat.le_refl 0, Ext.refl _⟩
  case round =>
    obtain ⟨k, x, hk, rfl, rfl, HJ, hxs, hx⟩ := hrel
    have HX := Lib.hid hx
    clear hx
    by_cases hkn : k < n
    · have hkI : (k : Int) < (n : Int) := by omega
      have hkJ : (0 : Int) ≤ (k : Int) := by omega
      obtain ⟨y, hy⟩ : ∃ x, vals[k]? = some x := ⟨_, List.getElem?_eq_getElem (by have := HN.out; omega)⟩
      obtain ⟨ad, rfl, c0⟩ := txt_cell (HR.out.ext HX.out) hy
      have hys := word_size (HW.out y (List.mem_of_getElem? hy))
      rcases Nat.eq_zero_or_pos k with hk0 | hk0
      · have hkd : decide ((0 : Int) < (k : Int)) = false := decide_eq_false (by omega)
        have hkd2 : decide (0 < k) = false := decide_eq_false (by omega)
        have HJ2 : Hid ((x ++ y).toList = joinL (txts (vals.take (k + 1)))) := Lib.hid (by
          rw [app_list, HJ.out]
          subst hk0
          rw [join_zero hy]
          rfl)
        have hb1 : ¬ (9223372036854775807 < x.size + y.size) := by omega
        clear hy hk0
        go_wp2_with fail
        go_roundw
        case rel => exact ⟨k + 1, x ++ y, by omega, by go_num, rfl, HJ2, by rw [size_app]; omega, HX.out⟩
        case measure => simp [intOf]; omega
      · have hkd : (0 : Int) < (k : Int) := by omega
        have HJ2 : Hid ((x ++ ⟨#[44]⟩ ++ y).toList = joinL (txts (vals.take (k + 1)))) := Lib.hid (by
          rw [app_list, app_list, HJ.out, join_next hy hk0]
          have : (⟨#[44]⟩ : ByteArray).toList = [44] := toList_mk [44]
          rw [this]
          simp)
        have hb1 : ¬ (9223372036854775807 < x.size + 1) := by omega
        have hb2 : ¬ (9223372036854775807 < (x ++ ⟨#[44]⟩).size + y.size) := by rw [size_app]; show ¬ (9223372036854775807 < x.size + 1 + y.size); omega
        have hcv := back (w := wr.alloc (.cells #[.int .u8 44] 5)) (A := some ⟨wr.heap.size, 0, none⟩) (n := 1) (c := 1) (l := [44]) rfl (Rd.new wr #[.int .u8 44] 5)
        have HX6 := Lib.hid (HX.out.trans (Ext.alloc wr (.cells #[.int .u8 44] 5)))
        clear hy
        go_wp2_with fail
        go_roundw
        case rel => exact ⟨k + 1, x ++ ⟨#[44]⟩ ++ y, by omega, by go_num, rfl, HJ2, by rw [size_app, size_app]; show x.size + 1 + y.size ≤ _; omega, HX6.out⟩
        case measure => simp [intOf]; omega
    · obtain rfl : k = n := by omega
      have HF : Hid (x.toList = joinL (txts vals)) := Lib.hid (by have := HJ.out; rwa [List.take_of_length_le (by rw [HN.out]; exact Nat.le_refl _)] at this)
      by_cases h1 : 1 < k
      · have h1I : (1 : Int) < (k : Int) := by omega
        have hb1 : ¬ (9223372036854775807 < 1 + x.size) := by omega
        have hb2 : ¬ (9223372036854775807 < (⟨#[40]⟩ ++ x : ByteArray).size + 1) := by rw [size_app]; show ¬ (9223372036854775807 < 1 + x.size + 1); omega
        have HL : Hid (listL (txts vals) = 40 :: (joinL (txts vals) ++ [41])) := Lib.hid (by unfold listL; rw [if_pos (by rw [txts_len, HN.out]; exact h1)])
        clear HJ
        go_wp2_with fail
        go_ret
        refine ⟨⟨#[40]⟩ ++ x ++ ⟨#[41]⟩, rfl, ?_, HX.out⟩
        rw [HL.out, app_list, app_list, HF.out, toList_mk [40], toList_mk [41]]
        simp
      · have h1I : decide ((1 : Int) < (k : Int)) = false := decide_eq_false (by omega)
        have h1J : decide (1 < k) = false := decide_eq_false h1
        have HL : Hid (listL (txts vals) = joinL (txts vals)) := Lib.hid (by unfold listL; rw [if_neg (by rw [txts_len, HN.out]; exact h1)])
        clear HJ h1
        go_wp2_with fail
        go_ret
        exact ⟨x, rfl, by rw [HL.out, HF.out], HX.out⟩
theorem right_vals {t : Tm} (h : rightT t = true) : (∀ x ∈ t.vals, wordB x = true) ∧ t.vals.length ≤ 16 ∧ wordB t.name = true := by
  unfold rightT at h
  rw [Bool.and_eq_true, Bool.and_eq_true, decide_eq_true_eq, List.all_eq_true] at h
  exact ⟨h.1, h.2.2, h.2.1⟩
theorem joinL_le : ∀ vs : List (List UInt8), (∀ v ∈ vs, v.length ≤ 64) → (joinL vs).length ≤ 65 * vs.length
  | [], _ => Nat.le_refl _
  | [v], h => by
    have := h v List.mem_cons_self
    show v.length ≤ 65 * 1
    omega
  | v :: w :: t, h => by
    have h1 := h v List.mem_cons_self
    have h2 := joinL_le (w :: t) fun u hu => h u (List.mem_cons_of_mem _ hu)
    show (v ++ 44 :: joinL (w :: t)).length ≤ _
    rw [List.length_append, List.length_cons]
    simp only [List.length_cons] at h2 ⊢
    omega
theorem listL_le {t : Tm} (h : rightT t = true) : (listL (txts t.vals)).length ≤ 1042 := by
  obtain ⟨h1, h2, _⟩ := right_vals h
  have hj := joinL_le (txts t.vals) fun v hv => by
    obtain ⟨x, hx, rfl⟩ := List.mem_map.1 hv
    rw [size_list]
    exact word_size (h1 x hx)
  rw [txts_len] at hj
  unfold listL
  split
  · simp only [List.length_cons, List.length_append, List.length_nil]
    omega
  · omega
theorem body_le {t : Tm} (h : rightT t = true) : (bodyL t).length ≤ 1200 := by
  have h1 := listL_le h
  have h2 := word_size (right_vals h).2.2
  unfold bodyL signL
  rw [List.length_append, List.length_append, size_list]
  split <;> simp only [List.length_cons, List.length_nil] <;> omega
set_option maxHeartbeats 4000000 in
theorem show_any (t : Tm) (u : Value) (w : World) (h : Txt w u t.vals) (hk : TmOk t) :
    Calls Try.prog 11 #[tmV t u] w fun e w' => ∃ s, e = .returned (.string s) ∧ s.toList = showL t ∧ Ext w w' := by
  obtain ⟨name, nt, vals⟩ := t
  have HT := Lib.hid h
  have HK := Lib.hid hk
  obtain ⟨A, n, c, rfl, hn, hnc, hc, hr⟩ := h
  clear hr hn hk
  simp only [tmV]
  go_enter Try.func11, Try.ntmps11
  go_upto_region 1 with fail
  have hb := heap_alloc_new w (.cells #[.string name, .bool nt, .slice A n c] 24 (0, 0))
  have hx1 := Ext.alloc w (.cells #[.string name, .bool nt, .slice A n c] 24)
  generalize w.alloc (.cells #[.string name, .bool nt, .slice A n c] 24) = w1 at hb hx1 ⊢
  generalize w.heap.size = p at hb ⊢
  have HB := Lib.hid hb
  have HX1 := Lib.hid hx1
  obtain ⟨d0, d1, d2⟩ := tm_cells HB.out (Ext.refl _)
  clear hb hx1
  go_wp2_with fail
  refine (right_term ⟨name, nt, vals⟩ (.slice A n c) w1 (HT.out.ext HX1.out) HK.out).mono ?_
  rintro e w2 ⟨rfl, hx⟩
  have HX2 := Lib.hid hx
  clear d0 d1 d2 hx
  obtain ⟨d0, d1, d2⟩ := tm_cells HB.out HX2.out
  cases hr : rightT ⟨name, nt, vals⟩ with
  | false =>
    have HF : Hid (showL ⟨name, nt, vals⟩ = []) := Lib.hid (by unfold showL; rw [hr]; rfl)
    go_wp2_with fail
    go_ret
    exact ⟨_, rfl, by rw [HF.out]; exact empty_list, HX1.out.trans HX2.out⟩
  | true =>
    have HF : Hid (showL ⟨name, nt, vals⟩ = bodyL ⟨name, nt, vals⟩) := Lib.hid (by unfold showL; rw [hr]; rfl)
    have HRV := Lib.hid (right_vals hr)
    have hns := word_size (right_vals hr).2.2
    have hll := listL_le hr
    dsimp only at hns hll
    clear hr
    cases nt with
    | true =>
      have hb1 : ¬ (9223372036854775807 < name.size + 2) := by omega
      have hs0 : w2.cell? ⟨p, 0, none⟩ = some (.string name) ∧ w2.cell? ⟨p, 2, none⟩ = some (.slice A n c) := ⟨d0, d2⟩
      go_upto_region 6 with fail
      go_region_held3 (fun wz => wz.cell? ⟨p, 0, none⟩ = some (.string name) ∧ wz.cell? ⟨p, 2, none⟩ = some (.slice A n c)) (first | assumption | exact hs5) (first
        | (go_at_call 35
           refine (list_any (.slice A n c) vals w2.drew (((HT.out.ext HX1.out).ext HX2.out).ext (Ext.drew w2)) HRV.out.1 HRV.out.2.1).mono ?_
           rintro e w3 ⟨ls, rfl, hls, hx⟩
           have HX3 := Lib.hid ((Ext.drew w2).trans hx)
           have hs5 := And.intro (HX3.out.cell hs0.1) (HX3.out.cell hs0.2)
           have hlz : ls.size ≤ 1042 := by rw [← size_list, hls]; exact hll
           have hb2 : ¬ (9223372036854775807 < (name ++ ⟨#[33, 61]⟩ : ByteArray).size + ls.size) := by rw [size_app]; show ¬ (9223372036854775807 < name.size + 2 + ls.size); omega
           have hb3 : ¬ (9223372036854775807 < name.size + 2 + ls.size) := by omega
           have HLS := Lib.hid hls
           clear hx hls))
      go_wp2_with fail
      go_ret
      refine ⟨name ++ ⟨#[33, 61]⟩ ++ ls, rfl, ?_, (HX1.out.trans HX2.out).trans HX3.out⟩
      rw [HF.out, app_list, app_list, HLS.out, toList_mk [33, 61]]
      rfl
    | false =>
      have hb1 : ¬ (9223372036854775807 < name.size + 1) := by omega
      have hs0 : w2.cell? ⟨p, 0, none⟩ = some (.string name) ∧ w2.cell? ⟨p, 2, none⟩ = some (.slice A n c) := ⟨d0, d2⟩
      go_upto_region 6 with fail
      go_region_held3 (fun wz => wz.cell? ⟨p, 0, none⟩ = some (.string name) ∧ wz.cell? ⟨p, 2, none⟩ = some (.slice A n c)) (first | assumption | exact hs5) (first
        | (go_at_call 35
           refine (list_any (.slice A n c) vals w2.drew (((HT.out.ext HX1.out).ext HX2.out).ext (Ext.drew w2)) HRV.out.1 HRV.out.2.1).mono ?_
           rintro e w3 ⟨ls, rfl, hls, hx⟩
           have HX3 := Lib.hid ((Ext.drew w2).trans hx)
           have hs5 := And.intro (HX3.out.cell hs0.1) (HX3.out.cell hs0.2)
           have hlz : ls.size ≤ 1042 := by rw [← size_list, hls]; exact hll
           have hb2 : ¬ (9223372036854775807 < (name ++ ⟨#[61]⟩ : ByteArray).size + ls.size) := by rw [size_app]; show ¬ (9223372036854775807 < name.size + 1 + ls.size); omega
           have hb3 : ¬ (9223372036854775807 < name.size + 1 + ls.size) := by omega
           have HLS := Lib.hid hls
           clear hx hls))
      go_wp2_with fail
      go_ret
      refine ⟨name ++ ⟨#[61]⟩ ++ ls, rfl, ?_, (HX1.out.trans HX2.out).trans HX3.out⟩
      rw [HF.out, app_list, app_list, HLS.out, toList_mk [61]]
      rfl
end Go.Proofs.Ytccjbmmhdbainaa

/- A term's text: the document. -/
namespace Go.Proofs.Ytccjbmmhdbainaa
open Go.RowKit Sets
set_option linter.unusedVariables false
set_option linter.unusedSectionVars false
set_option linter.unusedSimpArgs false
set_option maxRecDepth 100000

theorem add_zero_ (a : Addr) : a.add 0 = a := by
  obtain ⟨b, o, sp⟩ := a
  cases sp <;> simp [Addr.add]
/-- What the document's loop has written. -/
def openL (vals : List ByteArray) (k : Nat) : List UInt8 := if k = 0 then [] else 40 :: joinL (txts (vals.take k))
theorem open_zero {vals : List ByteArray} {v : ByteArray} (h : vals[0]? = some v) : openL vals 1 = 40 :: v.toList := by
  unfold openL
  rw [if_neg (by omega), join_zero h]
theorem open_next {vals : List ByteArray} {k : Nat} {v : ByteArray} (h : vals[k]? = some v) (hk : 0 < k) : openL vals (k + 1) = openL vals k ++ 44 :: v.toList := by
  unfold openL
  rw [if_neg (by omega), if_neg (by omega), join_next h hk]
  simp
theorem open_all {vals : List ByteArray} (h : 1 < vals.length) : openL vals vals.length ++ [41] = listL (txts vals) := by
  unfold openL listL
  rw [if_neg (by omega), if_pos (by rw [txts_len]; exact h), List.take_length]
  rfl
set_option maxHeartbeats 4000000 in
theorem rshow_any (t : Tm) (u : Value) (w : World) (h : Txt w u t.vals) (hk : TmOk t) :
    Calls Try.prog 12 #[tmV t u] w fun e w' => ∃ s, e = .returned (.string s) ∧ s.toList = showL t ∧ Ext w w' := by
  obtain ⟨name, nt, vals⟩ := t
  have HT := Lib.hid h
  have HK := Lib.hid hk
  obtain ⟨A, n, c, rfl, hn, hnc, hc, hr⟩ := h
  dsimp only at hn hr
  have HN := Lib.hid hn
  have HR0 := Lib.hid hr
  clear hr hn hk
  simp only [tmV]
  go_enter Try.func12, Try.ntmps12
  go_upto_region 1 with fail
  have hb := heap_alloc_new w (.cells #[.string name, .bool nt, .slice A n c] 30 (0, 0))
  have hx1 := Ext.alloc w (.cells #[.string name, .bool nt, .slice A n c] 30)
  generalize w.alloc (.cells #[.string name, .bool nt, .slice A n c] 30) = w1 at hb hx1 ⊢
  generalize w.heap.size = p at hb ⊢
  have HB := Lib.hid hb
  have HX1 := Lib.hid hx1
  have HRW := Lib.hid (HR0.out.ext hx1)
  obtain ⟨d0, d1, d2⟩ := tm_cells HB.out (Ext.refl _)
  clear hb hx1 HR0
  go_wp2_with fail
  refine (rright_term ⟨name, nt, vals⟩ (.slice A n c) w1 (HT.out.ext HX1.out) HK.out).mono ?_
  rintro e w2 ⟨rfl, hx⟩
  have HX2 := Lib.hid hx
  clear d0 d1 d2 hx
  obtain ⟨d0, d1, d2⟩ := tm_cells HB.out HX2.out
  cases hr : rightT ⟨name, nt, vals⟩ with
  | false =>
    have HF : Hid (showL ⟨name, nt, vals⟩ = []) := Lib.hid (by unfold showL; rw [hr]; rfl)
    go_wp2_with fail
    go_ret
    exact ⟨_, rfl, by rw [HF.out]; exact empty_list, HX1.out.trans HX2.out⟩
  | true =>
    have HF : Hid (showL ⟨name, nt, vals⟩ = bodyL ⟨name, nt, vals⟩) := Lib.hid (by unfold showL; rw [hr]; rfl)
    have HRV := Lib.hid (right_vals hr)
    have hns := word_size (right_vals hr).2.2
    have hn16 := (right_vals hr).2.1
    dsimp only at hns hn16
    rw [HN.out] at hn16
    clear hr
    cases nt with
    | true =>
      have hb9 : ¬ (9223372036854775807 < name.size + 1) := by omega
      have hb0 : ¬ (9223372036854775807 < name.size + 2) := by omega
      by_cases hn0 : n = 0
      · subst hn0
        have HL : Hid (listL (txts vals) = []) := Lib.hid (by
          have : vals = [] := List.eq_nil_of_length_eq_zero HN.out
          rw [this]
          rfl)
        go_wp2_with fail
        go_ret
        refine ⟨name ++ ⟨#[33, 61]⟩, rfl, ?_, HX1.out.trans HX2.out⟩
        rw [HF.out, app_list, toList_mk [33, 61]]
        unfold bodyL
        rw [HL.out, List.append_nil]
        rfl
      · have hn0I : ((n : Int) == 0) = false := by rw [beq_eq_false_iff_ne]; omega
        have hn0J : (n == 0) = false := by rw [beq_eq_false_iff_ne]; exact hn0
        by_cases hn1 : n = 1
        · obtain ⟨v, hv⟩ : ∃ v, vals = [v] := List.length_eq_one_iff.1 (by rw [HN.out]; exact hn1)
          obtain ⟨ad, rfl, c0⟩ := txt_cell (HRW.out.ext HX2.out) (show vals[0]? = some v by rw [hv]; rfl)
          have e0 : ad.add 0 = ad := add_zero_ ad
          rw [e0] at c0
          have hvs := word_size (HRV.out.1 v (by rw [hv]; exact List.mem_cons_self))
          have hb1 : ¬ (9223372036854775807 < name.size + 2 + v.size) := by omega
          have HL : Hid (listL (txts vals) = v.toList) := Lib.hid (by rw [hv]; rfl)
          clear hv
          subst hn1
          go_wp2_with fail
          go_ret
          refine ⟨name ++ ⟨#[33, 61]⟩ ++ v, rfl, ?_, HX1.out.trans HX2.out⟩
          rw [HF.out, app_list, app_list, toList_mk [33, 61]]
          unfold bodyL
          rw [HL.out]
          rfl
        · have hn1I : ((n : Int) == 1) = false := by rw [beq_eq_false_iff_ne]; omega
          have hn1J : (n == 1) = false := by rw [beq_eq_false_iff_ne]; exact hn1
          have HL := Lib.hid (open_all (vals := vals) (by rw [HN.out]; omega))
          clear hn0 hn1
          go_wp2_with fail
          go_loop [3, 5] (fun s i => ∃ (k : Nat) (x : ByteArray), k ≤ n ∧ i = .int .i64 (k : Int) ∧ s = .string x ∧ Hid (x.toList = (name.toList ++ [33, 61]) ++ openL vals k) ∧ x.size ≤ 70 + 65 * k) (fun _ i => n - (intOf i).toNat)
          case atStart => exact ⟨0, name ++ ⟨#[33, 61]⟩, by omega, rfl, rfl, Lib.hid (by rw [app_list, toList_mk [33, 61]]; simp [openL]), by rw [size_app]; show name.size + 2 ≤ _; omega⟩
          case round =>
            obtain ⟨k, x, hk, rfl, rfl, HJ, hxs⟩ := hrel
            by_cases hkn : k < n
            · have hkI : (k : Int) < (n : Int) := by omega
              have hkJ : (0 : Int) ≤ (k : Int) := by omega
              obtain ⟨y, hy⟩ : ∃ x, vals[k]? = some x := ⟨_, List.getElem?_eq_getElem (by have := HN.out; omega)⟩
              obtain ⟨ad, rfl, c0⟩ := txt_cell (HRW.out.ext HX2.out) hy
              have hys := word_size (HRV.out.1 y (List.mem_of_getElem? hy))
              have hb1 : ¬ (9223372036854775807 < x.size + 1) := by omega
              have hb2 : ¬ (9223372036854775807 < x.size + 1 + y.size) := by omega
              rcases Nat.eq_zero_or_pos k with hk0 | hk0
              · subst hk0
                have e0 : ad.add 0 = ad := add_zero_ ad
                rw [e0] at c0
                have HJ2 : Hid ((x ++ ⟨#[40]⟩ ++ y).toList = (name.toList ++ [33, 61]) ++ openL vals 1) := Lib.hid (by
                  rw [app_list, app_list, HJ.out, open_zero hy, toList_mk [40]]
                  simp [openL])
                clear hy
                go_wp2_with fail
                go_round
                case rel => exact ⟨1, x ++ ⟨#[40]⟩ ++ y, by omega, by go_num, rfl, HJ2, by rw [size_app, size_app]; show x.size + 1 + y.size ≤ _; omega⟩
                case measure => simp [intOf]; omega
              · have hk0I : ((k : Int) == 0) = false := by rw [beq_eq_false_iff_ne]; omega
                have hk0J : (k == 0) = false := by rw [beq_eq_false_iff_ne]; omega
                have HJ2 : Hid ((x ++ ⟨#[44]⟩ ++ y).toList = (name.toList ++ [33, 61]) ++ openL vals (k + 1)) := Lib.hid (by
                  rw [app_list, app_list, HJ.out, open_next hy hk0, toList_mk [44]]
                  simp)
                clear hy
                go_wp2_with fail
                go_round
                case rel => exact ⟨k + 1, x ++ ⟨#[44]⟩ ++ y, by omega, by go_num, rfl, HJ2, by rw [size_app, size_app]; show x.size + 1 + y.size ≤ _; omega⟩
                case measure => simp [intOf]; omega
            · obtain rfl : k = n := by omega
              have hb1 : ¬ (9223372036854775807 < x.size + 1) := by omega
              have HJ2 : Hid ((x ++ ⟨#[41]⟩).toList = bodyL ⟨name, true, vals⟩) := Lib.hid (by
                rw [app_list, HJ.out, toList_mk [41], List.append_assoc]
                unfold bodyL
                dsimp only
                rw [← HL.out, HN.out]
                rfl)
              go_wp2_with fail
              go_ret
              exact ⟨x ++ ⟨#[41]⟩, rfl, by rw [HF.out, HJ2.out], HX1.out.trans HX2.out⟩
    | false =>
      have hb0 : ¬ (9223372036854775807 < name.size + 1) := by omega
      by_cases hn0 : n = 0
      · subst hn0
        have HL : Hid (listL (txts vals) = []) := Lib.hid (by
          have : vals = [] := List.eq_nil_of_length_eq_zero HN.out
          rw [this]
          rfl)
        go_wp2_with fail
        go_ret
        refine ⟨name ++ ⟨#[61]⟩, rfl, ?_, HX1.out.trans HX2.out⟩
        rw [HF.out, app_list, toList_mk [61]]
        unfold bodyL
        rw [HL.out, List.append_nil]
        rfl
      · have hn0I : ((n : Int) == 0) = false := by rw [beq_eq_false_iff_ne]; omega
        have hn0J : (n == 0) = false := by rw [beq_eq_false_iff_ne]; exact hn0
        by_cases hn1 : n = 1
        · obtain ⟨v, hv⟩ : ∃ v, vals = [v] := List.length_eq_one_iff.1 (by rw [HN.out]; exact hn1)
          obtain ⟨ad, rfl, c0⟩ := txt_cell (HRW.out.ext HX2.out) (show vals[0]? = some v by rw [hv]; rfl)
          have e0 : ad.add 0 = ad := add_zero_ ad
          rw [e0] at c0
          have hvs := word_size (HRV.out.1 v (by rw [hv]; exact List.mem_cons_self))
          have hb1 : ¬ (9223372036854775807 < name.size + 1 + v.size) := by omega
          have HL : Hid (listL (txts vals) = v.toList) := Lib.hid (by rw [hv]; rfl)
          clear hv
          subst hn1
          go_wp2_with fail
          go_ret
          refine ⟨name ++ ⟨#[61]⟩ ++ v, rfl, ?_, HX1.out.trans HX2.out⟩
          rw [HF.out, app_list, app_list, toList_mk [61]]
          unfold bodyL
          rw [HL.out]
          rfl
        · have hn1I : ((n : Int) == 1) = false := by rw [beq_eq_false_iff_ne]; omega
          have hn1J : (n == 1) = false := by rw [beq_eq_false_iff_ne]; exact hn1
          have HL := Lib.hid (open_all (vals := vals) (by rw [HN.out]; omega))
          clear hn0 hn1
          go_wp2_with fail
          go_loop [3, 5] (fun s i => ∃ (k : Nat) (x : ByteArray), k ≤ n ∧ i = .int .i64 (k : Int) ∧ s = .string x ∧ Hid (x.toList = (name.toList ++ [61]) ++ openL vals k) ∧ x.size ≤ 70 + 65 * k) (fun _ i => n - (intOf i).toNat)
          case atStart => exact ⟨0, name ++ ⟨#[61]⟩, by omega, rfl, rfl, Lib.hid (by rw [app_list, toList_mk [61]]; simp [openL]), by rw [size_app]; show name.size + 1 ≤ _; omega⟩
          case round =>
            obtain ⟨k, x, hk, rfl, rfl, HJ, hxs⟩ := hrel
            by_cases hkn : k < n
            · have hkI : (k : Int) < (n : Int) := by omega
              have hkJ : (0 : Int) ≤ (k : Int) := by omega
              obtain ⟨y, hy⟩ : ∃ x, vals[k]? = some x := ⟨_, List.getElem?_eq_getElem (by have := HN.out; omega)⟩
              obtain ⟨ad, rfl, c0⟩ := txt_cell (HRW.out.ext HX2.out) hy
              have hys := word_size (HRV.out.1 y (List.mem_of_getElem? hy))
              have hb1 : ¬ (9223372036854775807 < x.size + 1) := by omega
              have hb2 : ¬ (9223372036854775807 < x.size + 1 + y.size) := by omega
              rcases Nat.eq_zero_or_pos k with hk0 | hk0
              · subst hk0
                have e0 : ad.add 0 = ad := add_zero_ ad
                rw [e0] at c0
                have HJ2 : Hid ((x ++ ⟨#[40]⟩ ++ y).toList = (name.toList ++ [61]) ++ openL vals 1) := Lib.hid (by
                  rw [app_list, app_list, HJ.out, open_zero hy, toList_mk [40]]
                  simp [openL])
                clear hy
                go_wp2_with fail
                go_round
                case rel => exact ⟨1, x ++ ⟨#[40]⟩ ++ y, by omega, by go_num, rfl, HJ2, by rw [size_app, size_app]; show x.size + 1 + y.size ≤ _; omega⟩
                case measure => simp [intOf]; omega
              · have hk0I : ((k : Int) == 0) = false := by rw [beq_eq_false_iff_ne]; omega
                have hk0J : (k == 0) = false := by rw [beq_eq_false_iff_ne]; omega
                have HJ2 : Hid ((x ++ ⟨#[44]⟩ ++ y).toList = (name.toList ++ [61]) ++ openL vals (k + 1)) := Lib.hid (by
                  rw [app_list, app_list, HJ.out, open_next hy hk0, toList_mk [44]]
                  simp)
                clear hy
                go_wp2_with fail
                go_round
                case rel => exact ⟨k + 1, x ++ ⟨#[44]⟩ ++ y, by omega, by go_num, rfl, HJ2, by rw [size_app, size_app]; show x.size + 1 + y.size ≤ _; omega⟩
                case measure => simp [intOf]; omega
            · obtain rfl : k = n := by omega
              have hb1 : ¬ (9223372036854775807 < x.size + 1) := by omega
              have HJ2 : Hid ((x ++ ⟨#[41]⟩).toList = bodyL ⟨name, false, vals⟩) := Lib.hid (by
                rw [app_list, HJ.out, toList_mk [41], List.append_assoc]
                unfold bodyL
                dsimp only
                rw [← HL.out, HN.out]
                rfl)
              go_wp2_with fail
              go_ret
              exact ⟨x ++ ⟨#[41]⟩, rfl, by rw [HF.out, HJ2.out], HX1.out.trans HX2.out⟩
end Go.Proofs.Ytccjbmmhdbainaa
