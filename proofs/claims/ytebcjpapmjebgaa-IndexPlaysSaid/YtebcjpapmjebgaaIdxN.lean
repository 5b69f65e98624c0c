/- Layer 9: the document's Same; an index that is not there. -/
import Derived.Test.YtebcjpapmjebgaaIdxC
import Derived.Deep.Draws
namespace Go.Proofs.Ytebcjpapmjebgaa
open Go.RowKit Sets
set_option linter.unusedVariables false
set_option linter.unusedSectionVars false
set_option linter.unusedSimpArgs false

theorem take_same {α : Type} {La Lb : List α} {k : Nat} {q p : α} (h : La.take k = Lb.take k) (ha : La[k]? = some q) (hb : Lb[k]? = some p) (e : q = p) : La.take (k + 1) = Lb.take (k + 1) := by
  rw [List.take_add_one, List.take_add_one, h, ha, hb, e]
theorem same_no {α : Type} {La Lb : List α} {k : Nat} {q p : α} (ha : La[k]? = some q) (hb : Lb[k]? = some p) (e : q ≠ p) : ¬ La = Lb := by
  rintro rfl
  rw [ha] at hb
  injection hb with hb
  exact e hb
theorem eq_dec (a b : ByteArray) : (a.toList == b.toList) = decide (a = b) := by
  by_cases h : a = b
  · simp [h]
  · rw [decide_eq_false h, beq_eq_false_iff_ne]
    exact fun e => h (text_ext e)
theorem lab_cells0 {w : World} {ad : Addr} {l : List Lab} {k : Nat} {y : Lab} (h : Rd w (some ad) (l.flatMap labC)) (hx : l[k]? = some y) (e : ad.add (k * 2) = ad) : w.cell? ad = some (.string y.1) := by
  have := (lab_cells h hx).1
  rwa [e] at this
set_option maxHeartbeats 1000000 in
theorem same_any (u v : Value) (La Lb : List Lab) (w : World) (ha : Row labC w u La) (hb : Row labC w v Lb) :
    Calls Try.prog 19 #[u, v] w fun e w' => e = .returned (.bool (decide (La = Lb))) ∧ Ext w w' := by
  obtain ⟨A, n, c, rfl, hn, hnc, hcm, hr⟩ := ha
  obtain ⟨A2, n2, c2, rfl, hn2, hnc2, hcm2, hr2⟩ := hb
  have hcm' : c ≤ 9223372036854775807 := by simpa [maxLen] using hcm
  clear hcm hcm2
  by_cases he : n = n2
  · subst he
    have HR := Lib.hid hr
    have HN := Lib.hid hn
    have HR2 := Lib.hid hr2
    have HN2 := Lib.hid hn2
    clear hr hn hr2 hn2
    go_enter Try.func19, Try.ntmps19
    go_wp2_with fail
    go_loopw [5] (fun i wr => ∃ k : Nat, k ≤ n ∧ i = .int .i64 (k : Int) ∧ Hid (La.take k = Lb.take k) ∧ Ext w wr) (fun i _ => n - (intOf i).toNat)
    case atStart => exact ⟨0, by omega, rfl, Lib.hid rfl, Ext.refl _⟩
    case round =>
      obtain ⟨k, hk, rfl, hown, hext⟩ := hrel
      by_cases hkn : k < n
      · obtain ⟨q, hq⟩ : ∃ q, La[k]? = some q := ⟨_, List.getElem?_eq_getElem (by have := HN.out; omega)⟩
        obtain ⟨p, hp⟩ : ∃ q, Lb[k]? = some q := ⟨_, List.getElem?_eq_getElem (by have := HN2.out; omega)⟩
        obtain ⟨ad, rfl⟩ : ∃ ad, A = some ad := row_some HR.out labC_len (by decide) (by have := HN.out; omega)
        obtain ⟨ad2, rfl⟩ : ∃ ad, A2 = some ad := row_some HR2.out labC_len (by decide) (by have := HN2.out; omega)
        obtain ⟨c0, c1⟩ := lab_cells (HR.out.ext hext) hq
        obtain ⟨d0, d1⟩ := lab_cells (HR2.out.ext hext) hp
        have hyes := fun e => take_same hown.out hq hp e
        have hno := fun e => same_no hq hp e
        have HY := Lib.hid hyes
        have HNO := Lib.hid hno
        clear hyes hno
        obtain ⟨qs, qd⟩ := q
        obtain ⟨ps, pd⟩ := p
        dsimp only at c0 c1 d0 d1
        clear hq hp hown
        have HE := Lib.hid hext
        clear hext
        by_cases e : ((qs, qd) : Lab) = (ps, pd)
        · have HT := HY.out e
          have HT := Lib.hid HT
          injection e with e1 e2
          subst e1 e2
          go_wp2_with fail
          go_quiet (fail)
          go_wp2_with fail
          go_roundw
          case rel => exact ⟨k + 1, by omega, by go_num, HT, HE.out.trans (Ext.drewN _ _)⟩
          case measure => simp [intOf]; omega
        · have HF := Lib.hid (HNO.out e)
          by_cases e1 : qs = ps
          · subst e1
            have e2 : qd ≠ pd := fun h => e (by rw [h])
            clear e
            have e2' : (qd.toList == pd.toList) = false := by rw [eq_dec]; simp [e2]
            go_wp2_with fail
            go_quiet (fail)
            go_wp2_with fail
            go_ret
            exact ⟨by rw [decide_eq_false HF.out]; rfl, HE.out.trans (Ext.drewN _ _)⟩
          · clear e
            have e1' : (qs.toList == ps.toList) = false := by rw [eq_dec]; simp [e1]
            go_wp2_with fail
            go_quiet (fail)
            go_wp2_with fail
            go_ret
            exact ⟨by rw [decide_eq_false HF.out]; rfl, HE.out.trans (Ext.drewN _ _)⟩
      · obtain rfl : k = n := by omega
        have e : La = Lb := by
          have h := hown.out
          rwa [List.take_of_length_le (by rw [HN.out]; exact Nat.le_refl _), List.take_of_length_le (by rw [HN2.out]; exact Nat.le_refl _)] at h
        have E := Lib.hid e
        clear e hown
        go_wp2_with fail
        go_ret
        exact ⟨by rw [decide_eq_true E.out]; rfl, hext⟩
  · have e : ¬ La = Lb := by
      rintro rfl
      omega
    have E := Lib.hid e
    clear e hr hn hr2 hn2
    have hne : decide ((n : Int) = (n2 : Int)) = false := by rw [decide_eq_false_iff_not]; omega
    go_enter Try.func19, Try.ntmps19
    go_wp2_with fail
    go_ret
    exact ⟨by simp [E.out], Ext.refl _⟩
section
variable (s t : ByteArray) (v : Value) (w : World)
theorem has_nil : Calls Try.prog 20 #[.pointer none, .string s] w fun e w' => e = .returned (.bool false) ∧ w = w' := by
  go_enter Try.func20, Try.ntmps20
  go_wp2_with fail
  go_ret
  exact ⟨rfl, rfl⟩
theorem set_nil : Calls Try.prog 12 #[.pointer none, .string s, v] w fun e w' => e = .returned (.int .i64 11) ∧ w = w' := by
  go_enter Try.func12, Try.ntmps12
  go_wp2_with fail
  go_ret
  exact ⟨rfl, rfl⟩
theorem drop_nil : Calls Try.prog 14 #[.pointer none, .string s] w fun e w' => e = .returned (.bool false) ∧ w = w' := by
  go_enter Try.func14, Try.ntmps14
  go_wp2_with fail
  refine (has_nil s w).mono ?_
  rintro e _ ⟨rfl, rfl⟩
  go_wp2_with fail
  go_ret
  exact ⟨rfl, rfl⟩
theorem labels_nil : Calls Try.prog 17 #[.pointer none, .string s] w fun e w' => e = .returned (.slice none 0 0) ∧ w = w' := by
  go_enter Try.func17, Try.ntmps17
  go_wp2_with fail
  go_ret
  exact ⟨rfl, rfl⟩
theorem keys_nil : Calls Try.prog 22 #[.pointer none] w fun e w' => e = .returned (.slice none 0 0) ∧ w = w' := by
  go_enter Try.func22, Try.ntmps22
  go_wp2_with fail
  go_ret
  exact ⟨rfl, rfl⟩
theorem find_nil : Calls Try.prog 26 #[.pointer none, .string s, .string t] w fun e w' => e = .returned (.slice none 0 0) ∧ w = w' := by
  go_enter Try.func26, Try.ntmps26
  go_wp2_with fail
  go_ret
  exact ⟨rfl, rfl⟩
theorem with_nil : Calls Try.prog 28 #[.pointer none, .string s] w fun e w' => e = .returned (.slice none 0 0) ∧ w = w' := by
  go_enter Try.func28, Try.ntmps28
  go_wp2_with fail
  go_ret
  exact ⟨rfl, rfl⟩
theorem size_nil : Calls Try.prog 24 #[.pointer none] w fun e w' => e = .returned (.int .i64 0) ∧ w = w' := by
  go_enter Try.func24, Try.ntmps24
  go_wp2_with fail
  go_ret
  exact ⟨rfl, rfl⟩
theorem copy_nil : Calls Try.prog 16 #[.pointer none] w fun e w' => e = .returned (.pointer none) ∧ w = w' := by
  go_enter Try.func16, Try.ntmps16
  go_wp2_with fail
  go_ret
  exact ⟨rfl, rfl⟩
end
end Go.Proofs.Ytebcjpapmjebgaa
