/- Layer 9's light, walked. -/
import Derived.Test.YtebcjpapmjebgaaIdxJ
import Derived.Deep.CutRange
namespace Go.Proofs.Ytebcjpapmjebgaa
open Go.RowKit Sets
set_option linter.unusedVariables false
set_option linter.unusedSectionVars false
set_option linter.unusedSimpArgs false

set_option maxRecDepth 100000 in
set_option maxHeartbeats 2000000 in
theorem light_any (o : IOp) (w : World) (ho : IOpOk w o) :
    Calls Try.prog 11 #[opV o] w fun e w' => ∃ b, e = .returned (.bool b) ∧ (b = true → o.ls.length ≤ 12) ∧ Ext w w' := by
  obtain ⟨kind, key, u, ls⟩ := o
  obtain ⟨A, n, c, rfl, hn, hnc, hcm, hr⟩ := ho.row
  dsimp only at hn hr
  have hc' : c ≤ 9223372036854775807 := by simpa [maxLen] using hcm
  have hx := Ext.alloc w (.cells #[.int .i64 kind, .string key, .slice A n c] 34)
  have hb := heap_alloc_new w (.cells #[.int .i64 kind, .string key, .slice A n c] 34 (0, 0))
  have c0 := heap_cell hb 0
  have c1 := heap_cell hb 1
  have c2 := heap_cell hb 2
  have HX := Lib.hid hx
  have HB := Lib.hid hb
  have HN := Lib.hid hn
  have HR := Lib.hid (hr.ext hx)
  simp only [opV]
  clear ho hr hx hb hcm hn
  by_cases hk : key.size ≤ 100
  · have g1 : decide ((100 : Int) < (key.size : Int)) = false := decide_eq_false (by omega)
    clear hk
    by_cases hn2 : n ≤ 12
    · have g2 : decide ((12 : Int) < (n : Int)) = false := decide_eq_false (by omega)
      go_enter Try.func11, Try.ntmps11
      go_wp2_with fail
      go_loopw [3] (fun i wr => ∃ k : Nat, k ≤ n ∧ i = .int .i64 (k : Int) ∧ Ext (w.alloc (.cells #[.int .i64 kind, .string key, .slice A n c] 34)) wr) (fun i _ => n - (intOf i).toNat)
      case atStart => exact ⟨0, by omega, rfl, Ext.refl _⟩
      case round =>
        obtain ⟨k, hkk, rfl, hext⟩ := hrel
        have HE := Lib.hid hext
        have d0 := hext.cell c0
        have d1 := hext.cell c1
        have d2 := hext.cell c2
        by_cases hkn : k < n
        · have hkI : (k : Int) < (n : Int) := by omega
          have hkJ : (0 : Int) ≤ (k : Int) := by omega
          obtain ⟨y, hy⟩ : ∃ y, ls[k]? = some y := ⟨_, List.getElem?_eq_getElem (by have := HN.out; omega)⟩
          obtain ⟨ad, rfl⟩ : ∃ ad, A = some ad := row_some HR.out labC_len (by decide) (by have := HN.out; omega)
          obtain ⟨r0, r1⟩ := lab_cells (HR.out.ext hext) hy
          obtain ⟨y1, y2⟩ := y
          dsimp only at r0 r1
          clear hy hext
          by_cases h1 : y1.size ≤ 100
          · have g3 : decide ((100 : Int) < (y1.size : Int)) = false := decide_eq_false (by omega)
            by_cases h2 : y2.size ≤ 100
            · have g4 : decide ((100 : Int) < (y2.size : Int)) = false := decide_eq_false (by omega)
              clear h1 h2
              go_wp2_with fail
              go_roundw
              case rel => exact ⟨k + 1, by omega, by go_num, HE.out⟩
              case measure => simp [intOf]; omega
            · have g4 : decide ((100 : Int) < (y2.size : Int)) = true := decide_eq_true (by omega)
              clear h1 h2
              go_wp2_with fail
              go_ret
              exact ⟨false, rfl, by simp, HX.out.trans HE.out⟩
          · have g3 : decide ((100 : Int) < (y1.size : Int)) = true := decide_eq_true (by omega)
            clear h1
            go_wp2_with fail
            go_ret
            exact ⟨false, rfl, by simp, HX.out.trans HE.out⟩
        · obtain rfl : k = n := by omega
          clear hext
          go_wp2_with fail
          go_ret
          exact ⟨true, rfl, fun _ => by rw [HN.out]; exact hn2, HX.out.trans HE.out⟩
    · have g2 : decide ((12 : Int) < (n : Int)) = true := decide_eq_true (by omega)
      go_enter Try.func11, Try.ntmps11
      go_wp2_with fail
      go_ret
      exact ⟨false, rfl, by simp, HX.out⟩
  · have g1 : decide ((100 : Int) < (key.size : Int)) = true := decide_eq_true (by omega)
    go_enter Try.func11, Try.ntmps11
    go_wp2_with fail
    go_ret
    exact ⟨false, rfl, by simp, HX.out⟩
end Go.Proofs.Ytebcjpapmjebgaa
