/- Layer 2: the document's Same. -/
import Derived.Test.YtpdebandcmhbcaaDelE
import Derived.Deep.LoopGhost
namespace Go.Proofs.Ytpdebandcmhbcaa
open Go.RowKit Bit
set_option linter.unusedVariables false

theorem take_same {α : Type} {La Lb : List α} {k : Nat} {q p : α} (h : La.take k = Lb.take k) (ha : La[k]? = some q) (hb : Lb[k]? = some p) (e : q = p) : La.take (k + 1) = Lb.take (k + 1) := by
  rw [List.take_add_one, List.take_add_one, h, ha, hb, e]
theorem same_no {α : Type} {La Lb : List α} {k : Nat} {q p : α} (ha : La[k]? = some q) (hb : Lb[k]? = some p) (e : q ≠ p) : ¬ La = Lb := by
  rintro rfl
  rw [ha] at hb
  injection hb with hb
  exact e hb
set_option maxHeartbeats 1000000 in
theorem same_any (u v : Value) (La Lb : List Smp) (w : World) (ha : Row smpC w u La) (hb : Row smpC w v Lb) :
    Calls Try.prog 24 #[u, v] w fun e w' => e = .returned (.bool (decide (La = Lb))) ∧ Ext w w' := by
  obtain ⟨A, n, c, rfl, hn, hnc, hcm, hr⟩ := ha
  obtain ⟨A2, n2, c2, rfl, hn2, hnc2, hcm2, hr2⟩ := hb
  have hcm' : c ≤ 9223372036854775807 := by simpa [maxLen] using hcm
  clear hcm hcm2
  by_cases he : n = n2
  · subst he
    have HR := Lib.hid hr
    have HN := Lib.hid hn
    have HR2 := Lib.hid hr2
    have HN2 := Lib.hid hn2
    clear hr hn hr2 hn2
    go_enter Try.func24, Try.ntmps24
    go_wp2_with fail
    go_loopw [5] (fun i wr => ∃ k : Nat, k ≤ n ∧ i = .int .i64 (k : Int) ∧ Hid (La.take k = Lb.take k) ∧ Ext w wr) (fun i _ => n - (intOf i).toNat)
    case atStart => exact ⟨0, by omega, rfl, Lib.hid rfl, Ext.refl _⟩
    case round =>
      obtain ⟨k, hk, rfl, hown, hext⟩ := hrel
      by_cases hkn : k < n
      · obtain ⟨q, hq⟩ : ∃ q, La[k]? = some q := ⟨_, List.getElem?_eq_getElem (by have := HN.out; omega)⟩
        obtain ⟨p, hp⟩ : ∃ q, Lb[k]? = some q := ⟨_, List.getElem?_eq_getElem (by have := HN2.out; omega)⟩
        obtain ⟨ad, rfl⟩ : ∃ ad, A = some ad := row_some HR.out smpC_len (by decide) (by have := HN.out; omega)
        obtain ⟨ad2, rfl⟩ : ∃ ad, A2 = some ad := row_some HR2.out smpC_len (by decide) (by have := HN2.out; omega)
        have hyes := fun e => take_same hown.out hq hp e
        have hno := fun e => same_no hq hp e
        have HY := Lib.hid hyes
        have HNO := Lib.hid hno
        clear hyes hno
        obtain ⟨c0, c1⟩ := smp_cells (HR.out.ext hext) hq
        obtain ⟨d0, d1⟩ := smp_cells (HR2.out.ext hext) hp
        obtain ⟨qs, qd⟩ := q
        obtain ⟨ps, pd⟩ := p
        dsimp only at c0 c1 d0 d1
        clear hq hp hown
        have HE := Lib.hid hext
        clear hext
        by_cases e : ((qs, qd) : Smp) = (ps, pd)
        · have HT := HY.out e
          have HT := Lib.hid HT
          injection e with e1 e2
          subst e1 e2
          go_wp2_with fail
          go_quiet (fail)
          go_wp2_with fail
          go_roundw
          case rel => exact ⟨k + 1, by omega, by go_num, HT, HE.out.trans (Ext.drewN _ _)⟩
          case measure => simp [intOf]; omega
        · have HF := Lib.hid (HNO.out e)
          by_cases e1 : qs = ps
          · subst e1
            have e2 : qd ≠ pd := fun h => e (by rw [h])
            clear e
            go_wp2_with fail
            go_quiet (fail)
            go_wp2_with fail
            go_ret
            exact ⟨by rw [decide_eq_false HF.out]; rfl, HE.out.trans (Ext.drewN _ _)⟩
          · clear e
            go_wp2_with fail
            go_quiet (fail)
            go_wp2_with fail
            go_ret
            exact ⟨by rw [decide_eq_false HF.out]; rfl, HE.out.trans (Ext.drewN _ _)⟩
      · obtain rfl : k = n := by omega
        have e : La = Lb := by
          have h := hown.out
          rwa [List.take_of_length_le (by rw [HN.out]; exact Nat.le_refl _), List.take_of_length_le (by rw [HN2.out]; exact Nat.le_refl _)] at h
        have E := Lib.hid e
        clear e hown
        go_wp2_with fail
        go_ret
        exact ⟨by rw [decide_eq_true E.out]; rfl, hext⟩
  · have e : ¬ La = Lb := by
      rintro rfl
      omega
    have E := Lib.hid e
    clear e hr hn hr2 hn2
    have hne : decide ((n : Int) = (n2 : Int)) = false := by rw [decide_eq_false_iff_not]; omega
    go_enter Try.func24, Try.ntmps24
    go_wp2_with fail
    go_ret
    exact ⟨by simp [E.out], Ext.refl _⟩
end Go.Proofs.Ytpdebandcmhbcaa
