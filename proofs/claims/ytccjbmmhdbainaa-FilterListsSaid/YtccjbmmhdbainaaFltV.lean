/- Words and terms that can be: package filter, and the document. -/
import Derived.Test.YtccjbmmhdbainaaFltP
import Derived.Lib.ConvBytes
import Derived.Deep.CutRange
namespace Go.Proofs.Ytccjbmmhdbainaa
open Go.RowKit Sets
set_option linter.unusedVariables false
set_option linter.unusedSectionVars false
set_option linter.unusedSimpArgs false
set_option maxRecDepth 100000

theorem bytes_ext_w (w : World) (e : TypeId) (s : ByteArray) : Ext w (Lib.bytesWorld w e s) :=
  ⟨rfl, rfl, rfl, by rw [Lib.bytesWorld_size]; omega, fun k hk => Lib.bytesWorld_at_old w e s k hk⟩
/-- A text turned into bytes. -/
theorem to_bytes (w : World) (s : ByteArray) : ∃ ad c w', (convert 9 71 (.string s)).run Try.prog w = .ok (.slice (some ad) s.size c) w' ∧ Rd w' (some ad) (s.toList.map byteV) ∧ Ext w w' := by
  refine ⟨_, _, _, Lib.run_convert_string_bytes w 9 71 5 s Try.underlying9 Try.underlying71 Try.underlying5, fun _ => ⟨_, rfl, fun j u hu => ?_⟩, bytes_ext_w w _ s⟩
  rw [List.getElem?_map, Option.map_eq_some_iff] at hu
  obtain ⟨b, hb, rfl⟩ := hu
  have hj := (List.getElem?_eq_some_iff.1 hb).1
  rw [size_list] at hj
  have := Lib.bytesWorld_cell w 5 s j hj
  have e : s.data.toList.getD j 0 = b := by
    rw [← Lib.toList_data, List.getD_eq_getElem?_getD, hb]
    rfl
  rw [e] at this
  have ea : (⟨w.heap.size, 0, none⟩ : Addr).add j = ⟨w.heap.size, j, none⟩ := by simp [Addr.add]; exact fun h => h.symm
  rw [ea]
  exact this
theorem okC_cases (b : UInt8) : (okC b = true ∧ ((b.toNat : Int) == 61) = false ∧ ((b.toNat : Int) == 33) = false ∧ ((b.toNat : Int) == 40) = false ∧ ((b.toNat : Int) == 41) = false ∧ ((b.toNat : Int) == 44) = false) ∨ (okC b = false ∧ (b = 61 ∨ b = 33 ∨ b = 40 ∨ b = 41 ∨ b = 44)) := by
  have h : ∀ n : UInt8, b ≠ n → ((b.toNat : Int) == (n.toNat : Int)) = false := by
    intro n hn
    rw [beq_eq_false_iff_ne]
    intro e
    exact hn (UInt8.toNat_inj.1 (by omega))
  by_cases h1 : b = 61
  · exact .inr ⟨by rw [h1]; decide, .inl h1⟩
  by_cases h2 : b = 33
  · exact .inr ⟨by rw [h2]; decide, .inr (.inl h2)⟩
  by_cases h3 : b = 40
  · exact .inr ⟨by rw [h3]; decide, .inr (.inr (.inl h3))⟩
  by_cases h4 : b = 41
  · exact .inr ⟨by rw [h4]; decide, .inr (.inr (.inr (.inl h4)))⟩
  by_cases h5 : b = 44
  · exact .inr ⟨by rw [h5]; decide, .inr (.inr (.inr (.inr h5)))⟩
  exact .inl ⟨by simp [okC, h1, h2, h3, h4, h5], h 61 h1, h 33 h2, h 40 h3, h 41 h4, h 44 h5⟩
theorem word_no {s : ByteArray} {k : Nat} {b : UInt8} (hk : s.toList[k]? = some b) (h : okC b = false) : wordB s = false := by
  unfold wordB wordL
  rw [all_no hk h, Bool.false_and]
theorem word_end {s : ByteArray} (h : s.toList.all okC = true) : wordB s = (decide (1 ≤ s.size) && decide (s.size ≤ 64)) := by
  unfold wordB wordL
  rw [h, Bool.true_and, size_list]
set_option maxHeartbeats 2000000 in
theorem word_any (s : ByteArray) (w : World) (hs : s.size ≤ 9223372036854775807) : Calls Try.prog 16 #[.string s] w fun e w' => e = .returned (.bool (wordB s)) ∧ Ext w w' := by
  obtain ⟨ad, c, w1, hconv, hrd, hx⟩ := to_bytes w s
  have HR := Lib.hid hrd
  have HX := Lib.hid hx
  clear hrd hx
  go_enter Try.func16, Try.ntmps16
  go_wp2_with fail
  clear hconv
  go_loopw [8] (fun i wr => ∃ k : Nat, k ≤ s.size ∧ i = .int .i64 (k : Int) ∧ Hid ((s.toList.take k).all okC = true) ∧ Ext w1 wr) (fun i _ => s.size - (intOf i).toNat)
  case atStart => exact ⟨0, by omega, rfl, Lib.hid rfl, Ext.refl _⟩
  case round =>
    obtain ⟨k, hk, rfl, HA, hx⟩ := hrel
    have HX2 := Lib.hid hx
    clear hx
    by_cases hkn : k < s.size
    · have hkI : (k : Int) < (s.size : Int) := by omega
      have hkJ : (0 : Int) ≤ (k : Int) := by omega
      have hb := get_list s k hkn
      generalize s[k] = b at hb
      have c0 : wr.cell? (ad.add k) = some (.int .u8 (b.toNat : Int)) := by
        obtain ⟨ad', e, hc⟩ := (HR.out.ext HX2.out) (by simp; intro h; rw [h] at hb; simp at hb)
        injection e with e
        subst e
        exact hc k _ (by rw [List.getElem?_map, hb]; rfl)
      rcases okC_cases b with ⟨ho, e1, e2, e3, e4, e5⟩ | ⟨ho, hbb⟩
      · have HA2 : Hid ((s.toList.take (k + 1)).all okC = true) := Lib.hid (by rw [all_take HA.out hb, ho])
        generalize (b.toNat : Int) = ci at c0 e1 e2 e3 e4 e5
        clear hb ho
        go_wp2_with fail
        go_roundw
        case rel => exact ⟨k + 1, by omega, by go_num, HA2, HX2.out⟩
        case measure => simp [intOf]; omega
      · have HF := Lib.hid (word_no hb ho)
        clear hb ho
        rcases hbb with rfl | rfl | rfl | rfl | rfl
        all_goals
          go_wp2_with fail
          go_ret
          exact ⟨by rw [HF.out]; rfl, HX.out.trans HX2.out⟩
    · obtain rfl : k = s.size := by omega
      have HF := Lib.hid (word_end (by have := HA.out; rwa [List.take_of_length_le (by rw [size_list]; exact Nat.le_refl _)] at this))
      by_cases h1 : 1 ≤ s.size
      · have hne : (s.toList == []) = false := by
          rw [beq_eq_false_iff_ne]
          intro e
          have := size_list s
          rw [e] at this
          simp at this
          omega
        by_cases h2 : s.size ≤ 64
        · have h2I : (s.size : Int) ≤ 64 := by omega
          go_wp2_with fail
          go_ret
          exact ⟨by rw [HF.out]; simp [h1, h2], HX.out.trans HX2.out⟩
        · have h2I : decide ((s.size : Int) ≤ 64) = false := decide_eq_false (by omega)
          go_wp2_with fail
          go_ret
          exact ⟨by rw [HF.out]; simp [h1, h2], HX.out.trans HX2.out⟩
      · have hz := size_zero (s := s) (by omega)
        have HF2 : Hid (wordB s = false) := Lib.hid (by rw [HF.out, decide_eq_false h1]; rfl)
        obtain rfl : s = ⟨#[]⟩ := bytes_ext (by rw [hz]; exact empty_list.symm)
        clear HF h1 hz
        go_wp2_with fail
        go_ret
        exact ⟨by rw [HF2.out]; rfl, HX.out.trans HX2.out⟩
set_option maxHeartbeats 2000000 in
theorem rword_any (s : ByteArray) (w : World) (hs : s.size ≤ 9223372036854775807) : Calls Try.prog 17 #[.string s] w fun e w' => e = .returned (.bool (wordB s)) ∧ w = w' := by
  go_enter Try.func17, Try.ntmps17
  go_wp2_with fail
  go_loop [3] (fun i => ∃ k : Nat, k ≤ s.size ∧ i = .int .i64 (k : Int) ∧ Hid ((s.toList.take k).all okC = true)) (fun i => s.size - (intOf i).toNat)
  case atStart => exact ⟨0, by omega, rfl, Lib.hid rfl⟩
  case round =>
    obtain ⟨k, hk, rfl, HA⟩ := hrel
    by_cases hkn : k < s.size
    · have hkI : (k : Int) < (s.size : Int) := by omega
      have hkJ : (0 : Int) ≤ (k : Int) := by omega
      have hb := get_list s k hkn
      generalize hsk : s[k] = b at hb
      rcases okC_cases b with ⟨ho, e1, e2, e3, e4, e5⟩ | ⟨ho, hbb⟩
      · have HA2 : Hid ((s.toList.take (k + 1)).all okC = true) := Lib.hid (by rw [all_take HA.out hb, ho])
        clear hb ho
        go_wp2_with fail
        go_round
        case rel => exact ⟨k + 1, by omega, by go_num, HA2⟩
        case measure => simp [intOf]; omega
      · have HF := Lib.hid (word_no hb ho)
        clear hb ho
        rcases hbb with rfl | rfl | rfl | rfl | rfl
        · go_wp2_with fail
          go_ret
          exact ⟨by rw [HF.out]; rfl, rfl⟩
        · go_wp2_with fail
          go_ret
          exact ⟨by rw [HF.out]; rfl, rfl⟩
        · go_wp2_with fail
          go_ret
          exact ⟨by rw [HF.out]; rfl, rfl⟩
        · go_wp2_with fail
          go_ret
          exact ⟨by rw [HF.out]; rfl, rfl⟩
        · go_wp2_with fail
          go_ret
          exact ⟨by rw [HF.out]; rfl, rfl⟩
    · obtain rfl : k = s.size := by omega
      have HF := Lib.hid (word_end (by have := HA.out; rwa [List.take_of_length_le (by rw [size_list]; exact Nat.le_refl _)] at this))
      by_cases h1 : 1 ≤ s.size
      · have h1I : (1 : Int) ≤ (s.size : Int) := by omega
        by_cases h2 : s.size ≤ 64
        · have h2I : (s.size : Int) ≤ 64 := by omega
          go_wp2_with fail
          go_ret
          exact ⟨by rw [HF.out]; simp [h1, h2], rfl⟩
        · have h2I : decide ((s.size : Int) ≤ 64) = false := decide_eq_false (by omega)
          go_wp2_with fail
          go_ret
          exact ⟨by rw [HF.out]; simp [h1, h2], rfl⟩
      · have h1I : decide ((1 : Int) ≤ (s.size : Int)) = false := decide_eq_false (by omega)
        have h1J : decide (1 ≤ s.size) = false := decide_eq_false h1
        go_wp2_with fail
        go_ret
        exact ⟨by rw [HF.out, h1J]; rfl, rfl⟩
end Go.Proofs.Ytccjbmmhdbainaa

/- Terms that can be: package filter, and the document. -/
namespace Go.Proofs.Ytccjbmmhdbainaa
open Go.RowKit Sets
set_option linter.unusedVariables false
set_option linter.unusedSectionVars false
set_option linter.unusedSimpArgs false
set_option maxRecDepth 100000

/-- A term's value; its values lie in memory. -/
def tmV (t : Tm) (u : Value) : Value := .agg #[.string t.name, .bool t.not, u]
structure TmOk (t : Tm) : Prop where
  name : okS t.name
  vals : ∀ v ∈ t.vals, okS v
theorem right_at {t : Tm} (h : t.vals.all wordB = true) : rightT t = (wordB t.name && decide (t.vals.length ≤ 16)) := by
  unfold rightT
  rw [h, Bool.true_and]
theorem right_no {t : Tm} {k : Nat} {x : ByteArray} (hx : t.vals[k]? = some x) (h : wordB x = false) : rightT t = false := by
  unfold rightT
  rw [all_no hx h, Bool.false_and]
/-- Three cells in a block of its own, in any later world. -/
theorem tm_cells {w w' : World} {p : Nat} {t : TypeId} {a b c : Value} (h : w.heap[p]? = some (.cells #[a, b, c] t (0, 0))) (hx : Ext w w') :
    w'.cell? ⟨p, 0, none⟩ = some a ∧ w'.cell? ⟨p, 1, none⟩ = some b ∧ w'.cell? ⟨p, 2, none⟩ = some c := by
  have hb := (Kp.of_ext (L := []) hx).heap h (by simp)
  exact ⟨heap_cell hb 0, heap_cell hb 1, heap_cell hb 2⟩
set_option maxHeartbeats 4000000 in
theorem right_term (t : Tm) (u : Value) (w : World) (h : Txt w u t.vals) (hk : TmOk t) :
    Calls Try.prog 14 #[tmV t u] w fun e w' => e = .returned (.bool (rightT t)) ∧ Ext w w' := by
  obtain ⟨name, nt, vals⟩ := t
  obtain ⟨A, n, c, rfl, hn, hnc, hc, hr⟩ := h
  dsimp only at hn hr
  have HR := Lib.hid hr
  have HN := Lib.hid hn
  have HK := Lib.hid hk
  clear hr hn hk
  simp only [tmV]
  go_enter Try.func14, Try.ntmps14
  go_upto_region 1 with fail
  have hb := heap_alloc_new w (.cells #[.string name, .bool nt, .slice A n c] 24 (0, 0))
  have hx1 := Ext.alloc w (.cells #[.string name, .bool nt, .slice A n c] 24)
  generalize w.alloc (.cells #[.string name, .bool nt, .slice A n c] 24) = w1 at hb hx1 ⊢
  generalize w.heap.size = p at hb ⊢
  have HB := Lib.hid hb
  have HX1 := Lib.hid hx1
  obtain ⟨d0, d1, d2⟩ := tm_cells HB.out (Ext.refl _)
  clear hb hx1
  go_wp2_with fail
  clear d0 d1 d2
  go_loopw [8] (fun i wr => ∃ k : Nat, k ≤ n ∧ i = .int .i64 (k : Int) ∧ Hid ((vals.take k).all wordB = true) ∧ Ext w1 wr) (fun i _ => n - (intOf i).toNat)
  case atStart => exact ⟨0, by omega, rfl, Lib.hid rfl, Ext.refl _⟩
  case round =>
    obtain ⟨k, hk, rfl, HA, hx⟩ := hrel
    have HX := Lib.hid hx
    clear hx
    obtain ⟨d0, d1, d2⟩ := tm_cells HB.out HX.out
    by_cases hkn : k < n
    · have hkI : (k : Int) < (n : Int) := by omega
      have hkJ : (0 : Int) ≤ (k : Int) := by omega
      obtain ⟨x, hx⟩ : ∃ x, vals[k]? = some x := ⟨_, List.getElem?_eq_getElem (by have := HN.out; omega)⟩
      obtain ⟨ad, rfl, c0⟩ := txt_cell ((HR.out.ext HX1.out).ext HX.out) hx
      have HKX := Lib.hid (HK.out.vals x (List.mem_of_getElem? hx))
      cases hw : wordB x with
      | false =>
        have HF := Lib.hid (right_no (t := ⟨name, nt, vals⟩) hx hw)
        clear hx
        go_wp2_with fail
        refine (word_any x _ HKX.out).mono ?_
        rintro e v5 ⟨rfl, hx⟩
        rw [hw]
        have hx5 : Ext wr v5 := by first | exact hx | exact hx ▸ Ext.refl _
        go_wp2_with fail
        go_ret
        exact ⟨by rw [HF.out]; rfl, HX1.out.trans (HX.out.trans hx5)⟩
      | true =>
        have HA2 : Hid ((vals.take (k + 1)).all wordB = true) := Lib.hid (by rw [all_take HA.out hx, hw])
        clear hx
        go_wp2_with fail
        refine (word_any x _ HKX.out).mono ?_
        rintro e v5 ⟨rfl, hx⟩
        rw [hw]
        have hx5 : Ext wr v5 := by first | exact hx | exact hx ▸ Ext.refl _
        go_wp2_with fail
        go_roundw
        case rel => exact ⟨k + 1, by omega, by go_num, HA2, HX.out.trans hx5⟩
        case measure => simp [intOf]; omega
    · obtain rfl : k = n := by omega
      have HF : Hid (rightT ⟨name, nt, vals⟩ = (wordB name && decide (vals.length ≤ 16))) := Lib.hid (right_at (t := ⟨name, nt, vals⟩) (by have := HA.out; rwa [List.take_of_length_le (by rw [HN.out]; exact Nat.le_refl _)] at this))
      clear HA
      by_cases h16 : k ≤ 16
      · have h16I : (k : Int) ≤ 16 := by omega
        have HF2 : Hid (rightT ⟨name, nt, vals⟩ = wordB name) := Lib.hid (by rw [HF.out, HN.out, decide_eq_true h16, Bool.and_true])
        cases hw : wordB name with
        | false =>
          go_wp2_with fail
          refine (word_any name _ HK.out.name).mono ?_
          rintro e v9 hx9
          obtain ⟨rfl, hx⟩ := hx9
          rw [hw]
          have hx9 : Ext wr v9 := by first | exact hx | exact hx ▸ Ext.refl _
          obtain ⟨d0, d1, d2⟩ := tm_cells HB.out (HX.out.trans hx9)
          go_wp2_with fail
          go_ret
          exact ⟨by rw [HF2.out, hw]; rfl, HX1.out.trans (HX.out.trans hx9)⟩
        | true =>
          go_wp2_with fail
          refine (word_any name _ HK.out.name).mono ?_
          rintro e v9 hx9
          obtain ⟨rfl, hx⟩ := hx9
          rw [hw]
          have hx9 : Ext wr v9 := by first | exact hx | exact hx ▸ Ext.refl _
          obtain ⟨d0, d1, d2⟩ := tm_cells HB.out (HX.out.trans hx9)
          go_wp2_with fail
          go_ret
          exact ⟨by rw [HF2.out, hw]; rfl, HX1.out.trans (HX.out.trans hx9)⟩
      · have h16I : decide ((k : Int) ≤ 16) = false := decide_eq_false (by omega)
        have HF2 : Hid (rightT ⟨name, nt, vals⟩ = false) := Lib.hid (by rw [HF.out, HN.out, decide_eq_false h16, Bool.and_false])
        cases hw : wordB name with
        | false =>
          go_wp2_with fail
          refine (word_any name _ HK.out.name).mono ?_
          rintro e v9 hx9
          obtain ⟨rfl, hx⟩ := hx9
          rw [hw]
          have hx9 : Ext wr v9 := by first | exact hx | exact hx ▸ Ext.refl _
          obtain ⟨d0, d1, d2⟩ := tm_cells HB.out (HX.out.trans hx9)
          go_wp2_with fail
          go_ret
          exact ⟨by rw [HF2.out]; rfl, HX1.out.trans (HX.out.trans hx9)⟩
        | true =>
          go_wp2_with fail
          refine (word_any name _ HK.out.name).mono ?_
          rintro e v9 hx9
          obtain ⟨rfl, hx⟩ := hx9
          rw [hw]
          have hx9 : Ext wr v9 := by first | exact hx | exact hx ▸ Ext.refl _
          obtain ⟨d0, d1, d2⟩ := tm_cells HB.out (HX.out.trans hx9)
          go_wp2_with fail
          go_ret
          exact ⟨by rw [HF2.out]; rfl, HX1.out.trans (HX.out.trans hx9)⟩
set_option maxHeartbeats 4000000 in
theorem rright_term (t : Tm) (u : Value) (w : World) (h : Txt w u t.vals) (hk : TmOk t) :
    Calls Try.prog 15 #[tmV t u] w fun e w' => e = .returned (.bool (rightT t)) ∧ Ext w w' := by
  obtain ⟨name, nt, vals⟩ := t
  obtain ⟨A, n, c, rfl, hn, hnc, hc, hr⟩ := h
  dsimp only at hn hr
  have HR := Lib.hid hr
  have HN := Lib.hid hn
  have HK := Lib.hid hk
  clear hr hn hk
  simp only [tmV]
  go_enter Try.func15, Try.ntmps15
  go_upto_region 1 with fail
  have hb := heap_alloc_new w (.cells #[.string name, .bool nt, .slice A n c] 30 (0, 0))
  have hx1 := Ext.alloc w (.cells #[.string name, .bool nt, .slice A n c] 30)
  generalize w.alloc (.cells #[.string name, .bool nt, .slice A n c] 30) = w1 at hb hx1 ⊢
  generalize w.heap.size = p at hb ⊢
  have HB := Lib.hid hb
  have HX1 := Lib.hid hx1
  obtain ⟨d0, d1, d2⟩ := tm_cells HB.out (Ext.refl _)
  clear hb hx1
  go_wp2_with fail
  clear d0 d1 d2
  go_loopw [3] (fun i wr => ∃ k : Nat, k ≤ n ∧ i = .int .i64 (k : Int) ∧ Hid ((vals.take k).all wordB = true) ∧ Ext w1 wr) (fun i _ => n - (intOf i).toNat)
  case atStart => exact ⟨0, by omega, rfl, Lib.hid rfl, Ext.refl _⟩
  case round =>
    obtain ⟨k, hk, rfl, HA, hx⟩ := hrel
    have HX := Lib.hid hx
    clear hx
    obtain ⟨d0, d1, d2⟩ := tm_cells HB.out HX.out
    by_cases hkn : k < n
    · have hkI : (k : Int) < (n : Int) := by omega
      have hkJ : (0 : Int) ≤ (k : Int) := by omega
      obtain ⟨x, hx⟩ : ∃ x, vals[k]? = some x := ⟨_, List.getElem?_eq_getElem (by have := HN.out; omega)⟩
      obtain ⟨ad, rfl, c0⟩ := txt_cell ((HR.out.ext HX1.out).ext HX.out) hx
      have HKX := Lib.hid (HK.out.vals x (List.mem_of_getElem? hx))
      cases hw : wordB x with
      | false =>
        have HF := Lib.hid (right_no (t := ⟨name, nt, vals⟩) hx hw)
        clear hx
        go_wp2_with fail
        refine (rword_any x _ HKX.out).mono ?_
        rintro e v5 ⟨rfl, hx⟩
        rw [hw]
        have hx5 : Ext wr v5 := by first | exact hx | exact hx ▸ Ext.refl _
        go_wp2_with fail
        go_ret
        exact ⟨by rw [HF.out]; rfl, HX1.out.trans (HX.out.trans hx5)⟩
      | true =>
        have HA2 : Hid ((vals.take (k + 1)).all wordB = true) := Lib.hid (by rw [all_take HA.out hx, hw])
        clear hx
        go_wp2_with fail
        refine (rword_any x _ HKX.out).mono ?_
        rintro e v5 ⟨rfl, hx⟩
        rw [hw]
        have hx5 : Ext wr v5 := by first | exact hx | exact hx ▸ Ext.refl _
        go_wp2_with fail
        go_roundw
        case rel => exact ⟨k + 1, by omega, by go_num, HA2, HX.out.trans hx5⟩
        case measure => simp [intOf]; omega
    · obtain rfl : k = n := by omega
      have HF : Hid (rightT ⟨name, nt, vals⟩ = (wordB name && decide (vals.length ≤ 16))) := Lib.hid (right_at (t := ⟨name, nt, vals⟩) (by have := HA.out; rwa [List.take_of_length_le (by rw [HN.out]; exact Nat.le_refl _)] at this))
      clear HA
      by_cases h16 : k ≤ 16
      · have h16I : (k : Int) ≤ 16 := by omega
        have HF2 : Hid (rightT ⟨name, nt, vals⟩ = wordB name) := Lib.hid (by rw [HF.out, HN.out, decide_eq_true h16, Bool.and_true])
        cases hw : wordB name with
        | false =>
          go_wp2_with fail
          refine (rword_any name _ HK.out.name).mono ?_
          rintro e v9 hx9
          obtain ⟨rfl, hx⟩ := hx9
          rw [hw]
          have hx9 : Ext wr v9 := by first | exact hx | exact hx ▸ Ext.refl _
          obtain ⟨d0, d1, d2⟩ := tm_cells HB.out (HX.out.trans hx9)
          go_wp2_with fail
          go_ret
          exact ⟨by rw [HF2.out, hw]; rfl, HX1.out.trans (HX.out.trans hx9)⟩
        | true =>
          go_wp2_with fail
          refine (rword_any name _ HK.out.name).mono ?_
          rintro e v9 hx9
          obtain ⟨rfl, hx⟩ := hx9
          rw [hw]
          have hx9 : Ext wr v9 := by first | exact hx | exact hx ▸ Ext.refl _
          obtain ⟨d0, d1, d2⟩ := tm_cells HB.out (HX.out.trans hx9)
          go_wp2_with fail
          go_ret
          exact ⟨by rw [HF2.out, hw]; rfl, HX1.out.trans (HX.out.trans hx9)⟩
      · have h16I : decide ((k : Int) ≤ 16) = false := decide_eq_false (by omega)
        have HF2 : Hid (rightT ⟨name, nt, vals⟩ = false) := Lib.hid (by rw [HF.out, HN.out, decide_eq_false h16, Bool.and_false])
        cases hw : wordB name with
        | false =>
          go_wp2_with fail
          refine (rword_any name _ HK.out.name).mono ?_
          rintro e v9 hx9
          obtain ⟨rfl, hx⟩ := hx9
          rw [hw]
          have hx9 : Ext wr v9 := by first | exact hx | exact hx ▸ Ext.refl _
          obtain ⟨d0, d1, d2⟩ := tm_cells HB.out (HX.out.trans hx9)
          go_wp2_with fail
          go_ret
          exact ⟨by rw [HF2.out]; rfl, HX1.out.trans (HX.out.trans hx9)⟩
        | true =>
          go_wp2_with fail
          refine (rword_any name _ HK.out.name).mono ?_
          rintro e v9 hx9
          obtain ⟨rfl, hx⟩ := hx9
          rw [hw]
          have hx9 : Ext wr v9 := by first | exact hx | exact hx ▸ Ext.refl _
          obtain ⟨d0, d1, d2⟩ := tm_cells HB.out (HX.out.trans hx9)
          go_wp2_with fail
          go_ret
          exact ⟨by rw [HF2.out]; rfl, HX1.out.trans (HX.out.trans hx9)⟩
end Go.Proofs.Ytccjbmmhdbainaa
