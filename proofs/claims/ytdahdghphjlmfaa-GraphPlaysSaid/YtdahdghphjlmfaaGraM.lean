/- Layer 11: the document's Same. -/
import Derived.Test.YtdahdghphjlmfaaGraF
namespace Go.Proofs.Ytdahdghphjlmfaa
open Go.RowKit Sets Gra
set_option linter.unusedVariables false

theorem take_same {α : Type} {La Lb : List α} {k : Nat} {q p : α} (h : La.take k = Lb.take k) (ha : La[k]? = some q) (hb : Lb[k]? = some p) (e : q = p) : La.take (k + 1) = Lb.take (k + 1) := by
  rw [List.take_add_one, List.take_add_one, h, ha, hb, e]
theorem same_no {α : Type} {La Lb : List α} {k : Nat} {q p : α} (ha : La[k]? = some q) (hb : Lb[k]? = some p) (e : q ≠ p) : ¬ La = Lb := by
  rintro rfl
  rw [ha] at hb
  injection hb with hb
  exact e hb
set_option maxHeartbeats 1000000 in
theorem same_any (u v : Value) (La Lb : List Rule) (w : World) (ha : Row ruleC w u La) (hb : Row ruleC w v Lb) :
    Calls Try.prog 22 #[u, v] w fun e w' => e = .returned (.bool (decide (La = Lb))) ∧ Ext w w' := by
  obtain ⟨A, n, c, rfl, hn, hnc, hcm, hr⟩ := ha
  obtain ⟨A2, n2, c2, rfl, hn2, hnc2, hcm2, hr2⟩ := hb
  have hcm' : c ≤ 9223372036854775807 := by simpa [maxLen] using hcm
  clear hcm hcm2
  by_cases he : n = n2
  · subst he
    have HR := Lib.hid hr
    have HN := Lib.hid hn
    have HR2 := Lib.hid hr2
    have HN2 := Lib.hid hn2
    clear hr hn hr2 hn2
    go_enter Try.func22, Try.ntmps22
    go_wp2_with fail
    go_loopw [5] (fun i wr => ∃ k : Nat, k ≤ n ∧ i = .int .i64 (k : Int) ∧ Hid (La.take k = Lb.take k) ∧ Ext w wr) (fun i _ => n - (intOf i).toNat)
    case atStart => exact ⟨0, by omega, rfl, Lib.hid rfl, Ext.refl _⟩
    case round =>
      obtain ⟨k, hk, rfl, hown, hext⟩ := hrel
      by_cases hkn : k < n
      · obtain ⟨q, hq⟩ : ∃ q, La[k]? = some q := ⟨_, List.getElem?_eq_getElem (by have := HN.out; omega)⟩
        obtain ⟨p, hp⟩ : ∃ q, Lb[k]? = some q := ⟨_, List.getElem?_eq_getElem (by have := HN2.out; omega)⟩
        obtain ⟨ad, rfl⟩ : ∃ ad, A = some ad := row_some HR.out ruleC_len (by decide) (by have := HN.out; omega)
        obtain ⟨ad2, rfl⟩ : ∃ ad, A2 = some ad := row_some HR2.out ruleC_len (by decide) (by have := HN2.out; omega)
        have hrw := HR.out.ext hext
        have hrw2 := HR2.out.ext hext
        have HQ := Lib.hid hq
        have HP := Lib.hid hp
        have hyes := fun e => take_same hown.out hq hp e
        have hno := fun e => same_no hq hp e
        have HY := Lib.hid hyes
        have HNO := Lib.hid hno
        clear hyes hno
        obtain ⟨qs, qd, qk, qz, qa⟩ := q
        obtain ⟨ps, pd, pk, pz, pa⟩ := p
        have c0 : wr.cell? (ad.add (k * 5)) = some (.string qs) := row_cell ruleC_len hrw k 0 hq rfl
        have c1 : wr.cell? ⟨(ad.add (k * 5)).block, (ad.add (k * 5)).off + 1, none⟩ = some (.string qd) := row_field ruleC_len hrw k 1 (by decide) hq rfl
        have c2 : wr.cell? ⟨(ad.add (k * 5)).block, (ad.add (k * 5)).off + 2, none⟩ = some (.int .i64 qk) := row_field ruleC_len hrw k 2 (by decide) hq rfl
        have c3 : wr.cell? ⟨(ad.add (k * 5)).block, (ad.add (k * 5)).off + 3, none⟩ = some (.int .i64 qz) := row_field ruleC_len hrw k 3 (by decide) hq rfl
        have c4 : wr.cell? ⟨(ad.add (k * 5)).block, (ad.add (k * 5)).off + 4, none⟩ = some (.int .i64 qa) := row_field ruleC_len hrw k 4 (by decide) hq rfl
        have d0 : wr.cell? (ad2.add (k * 5)) = some (.string ps) := row_cell ruleC_len hrw2 k 0 hp rfl
        have d1 : wr.cell? ⟨(ad2.add (k * 5)).block, (ad2.add (k * 5)).off + 1, none⟩ = some (.string pd) := row_field ruleC_len hrw2 k 1 (by decide) hp rfl
        have d2 : wr.cell? ⟨(ad2.add (k * 5)).block, (ad2.add (k * 5)).off + 2, none⟩ = some (.int .i64 pk) := row_field ruleC_len hrw2 k 2 (by decide) hp rfl
        have d3 : wr.cell? ⟨(ad2.add (k * 5)).block, (ad2.add (k * 5)).off + 3, none⟩ = some (.int .i64 pz) := row_field ruleC_len hrw2 k 3 (by decide) hp rfl
        have d4 : wr.cell? ⟨(ad2.add (k * 5)).block, (ad2.add (k * 5)).off + 4, none⟩ = some (.int .i64 pa) := row_field ruleC_len hrw2 k 4 (by decide) hp rfl
        clear hrw hrw2 hq hp hown
        have HE := Lib.hid hext
        clear hext
        by_cases e : (⟨qs, qd, qk, qz, qa⟩ : Rule) = ⟨ps, pd, pk, pz, pa⟩
        · have HT := HY.out e
          have HT := Lib.hid HT
          injection e with e1 e2 e3 e4 e5
          subst e1 e2 e3 e4 e5
          go_wp2_with fail
          go_quiet (fail)
          go_wp2_with fail
          go_roundw
          case rel => exact ⟨k + 1, by omega, by go_num, HT, HE.out.trans (Ext.drewN _ _)⟩
          case measure => simp [intOf]; omega
        · have HF := Lib.hid (HNO.out e)
          by_cases e1 : qs = ps
          · subst e1
            by_cases e2 : qd = pd
            · subst e2
              by_cases e3 : qk = pk
              · subst e3
                by_cases e4 : qz = pz
                · subst e4
                  have e5 : qa ≠ pa := fun h => e (by rw [h])
                  clear e
                  go_wp2_with fail
                  go_quiet (fail)
                  go_wp2_with fail
                  go_ret
                  exact ⟨by rw [decide_eq_false HF.out]; rfl, HE.out.trans (Ext.drewN _ _)⟩
                · clear e
                  go_wp2_with fail
                  go_quiet (fail)
                  go_wp2_with fail
                  go_ret
                  exact ⟨by rw [decide_eq_false HF.out]; rfl, HE.out.trans (Ext.drewN _ _)⟩
              · clear e
                go_wp2_with fail
                go_quiet (fail)
                go_wp2_with fail
                go_ret
                exact ⟨by rw [decide_eq_false HF.out]; rfl, HE.out.trans (Ext.drewN _ _)⟩
            · clear e
              have e2' : (qd.toList == pd.toList) = false := by rw [eq_dec]; simp [e2]
              go_wp2_with fail
              go_quiet (fail)
              go_wp2_with fail
              go_ret
              exact ⟨by rw [decide_eq_false HF.out]; rfl, HE.out.trans (Ext.drewN _ _)⟩
          · clear e
            have e1' : (qs.toList == ps.toList) = false := by rw [eq_dec]; simp [e1]
            go_wp2_with fail
            go_quiet (fail)
            go_wp2_with fail
            go_ret
            exact ⟨by rw [decide_eq_false HF.out]; rfl, HE.out.trans (Ext.drewN _ _)⟩
      · obtain rfl : k = n := by omega
        have e : La = Lb := by
          have h := hown.out
          rwa [List.take_of_length_le (by rw [HN.out]; exact Nat.le_refl _), List.take_of_length_le (by rw [HN2.out]; exact Nat.le_refl _)] at h
        have E := Lib.hid e
        clear e hown
        go_wp2_with fail
        go_ret
        exact ⟨by rw [decide_eq_true E.out]; rfl, hext⟩
  · have e : ¬ La = Lb := by
      rintro rfl
      omega
    have E := Lib.hid e
    clear e hr hn hr2 hn2
    have hne : decide ((n : Int) = (n2 : Int)) = false := by rw [decide_eq_false_iff_not]; omega
    go_enter Try.func22, Try.ntmps22
    go_wp2_with fail
    go_ret
    exact ⟨by simp [E.out], Ext.refl _⟩
end Go.Proofs.Ytdahdghphjlmfaa
