/- RespNil, RespTells, RespWords walked. -/
import Derived.Test.YtdbboooblbdihaaRspX
namespace Go.Proofs.Ytdbboooblbdihaa
open Go.RowKit
set_option linter.unusedVariables false
set_option linter.unusedSectionVars false
set_option linter.unusedSimpArgs false
set_option maxRecDepth 100000


theorem feed_nil (b : ByteArray) (w : World) : Calls Try.prog 12 #[.pointer none, .string b] w fun e w' => e = .returned (.slice none 0 0) ∧ w = w' := by
  go_enter Try.func12, Try.ntmps12
  go_wp2_with fail
  go_ret
  exact ⟨rfl, rfl⟩
theorem respNil_any (s : ByteArray) (w : World) : Calls Try.prog 8 #[.string s] w fun e w' => e = .returned (.bool true) ∧ Ext w w' := by
  go_enter Try.func8, Try.ntmps8
  go_wp2_with fail
  refine (feed_nil s w).mono ?_
  rintro e _ ⟨rfl, rfl⟩
  go_wp2_with fail
  refine (left_nil w).mono ?_
  rintro e _ ⟨rfl, rfl⟩
  go_wp2_with fail
  refine (dead_nil w).mono ?_
  rintro e w1 ⟨rfl, q, rfl⟩
  go_wp2_with fail
  refine (known_any _).mono ?_
  rintro e w2 ⟨rfl, hx⟩
  have HX := Lib.hid ((Ext.drewN q w).trans hx)
  clear hx
  go_wp2_with fail
  go_ret
  exact ⟨rfl, HX.out⟩
theorem encB_refl (l : List Itm) : ((encB l).toList == (encB l).toList) = true := by simp
set_option maxHeartbeats 2000000 in
theorem respTells_any (v : Value) (l : List Itm) (w : World) (hv : Row itC w v l) (hok : ∀ x ∈ l, ItmOk x) : Calls Try.prog 5 #[v] w fun e w' => e = .returned (.bool true) ∧ Ext w w' := by
  have HV := Lib.hid hv
  have HOK := Lib.hid hok
  obtain ⟨A, n, c, rfl, hn, hnc, hcm, hr⟩ := hv
  subst hn
  have HR := Lib.hid hr
  clear hr hok
  by_cases h60 : l.length ≤ 60
  · have h60B : decide ((60 : Int) < (l.length : Int)) = false := decide_eq_false (by omega)
    have h60C : decide (60 < l.length) = false := decide_eq_false (by omega)
    go_enter Try.func5, Try.ntmps5
    go_wp2_with fail
    go_loopw [3] (fun iv wr => ∃ k : Nat, k ≤ l.length ∧ iv = .int .i64 (k : Int) ∧ wr = w) (fun iv _ => l.length - (intOf iv).toNat)
    case atStart => exact ⟨0, by omega, rfl, rfl⟩
    case round =>
      obtain ⟨k, hk, rfl, rfl⟩ := hrel
      by_cases hkn : k < l.length
      · have hkI : (k : Int) < (l.length : Int) := by omega
        have hkJ : (0 : Int) ≤ (k : Int) := by omega
        obtain ⟨x, hxk⟩ : ∃ x, l[k]? = some x := ⟨_, List.getElem?_eq_getElem hkn⟩
        obtain ⟨ad, rfl⟩ := row_some HR.out itC_len (by decide) (by omega)
        obtain ⟨c0, c1, c2⟩ := row_parts HR.out hxk
        obtain ⟨kd, xn, s⟩ := x
        dsimp only at c0 c1 c2
        clear hxk
        by_cases hs : s.size ≤ 600
        · have hsB : decide ((600 : Int) < (s.size : Int)) = false := decide_eq_false (by omega)
          have hsC : decide (600 < s.size) = false := decide_eq_false (by omega)
          go_wp2_with fail
          go_roundw
          case rel => exact ⟨k + 1, by omega, by go_num, trivial⟩
          case measure => simp [intOf]; omega
        · have hsB : decide ((600 : Int) < (s.size : Int)) = true := decide_eq_true (by omega)
          have hsC : decide (600 < s.size) = true := decide_eq_true (by omega)
          go_wp2_with fail
          refine (known_any _).mono ?_
          rintro e wk ⟨rfl, hxk⟩
          have HXK := Lib.hid ((Ext.refl wr).trans hxk)
          clear hxk
          go_wp2_with fail
          go_ret
          exact ⟨rfl, HXK.out⟩
      · have hkI : ¬ (k : Int) < (l.length : Int) := by omega
        obtain rfl : k = l.length := by omega
        go_wp2_with fail
        refine (Right_any _ l wr HV.out HOK.out (by omega)).mono ?_
        rintro e w1 ⟨rfl, hx1⟩
        have HX1 := Lib.hid hx1
        clear hx1
        go_wp2_with fail
        refine (litems_any _ l w1 (HV.out.ext HX1.out) (by omega)).mono ?_
        rintro e w2 ⟨u, rfl, hu, hx2⟩
        have HX2 := Lib.hid (HX1.out.trans hx2)
        have HU := Lib.hid hu
        clear hx2 hu HX1
        go_wp2_with fail
        refine (rRight_any _ l w2 HU.out HOK.out (by omega)).mono ?_
        rintro e w3 ⟨rfl, hx3⟩
        have HX3 := Lib.hid (HX2.out.trans hx3)
        clear hx3 HX2 HU
        generalize decide (rightL l) = b
        have hbb : (b == b) = true := by simp
        go_wp2_with fail
        refine (encode_any _ l w3 (HV.out.ext HX3.out) HOK.out (by omega)).mono ?_
        rintro e w4 ⟨rfl, hx4⟩
        have HX4 := Lib.hid (HX3.out.trans hx4)
        clear hx4 HX3
        go_wp2_with fail
        refine (litems_any _ l w4 (HV.out.ext HX4.out) (by omega)).mono ?_
        rintro e w5 ⟨u, rfl, hu, hx5⟩
        have HX5 := Lib.hid (HX4.out.trans hx5)
        have HU := Lib.hid hu
        clear hx5 hu HX4
        go_wp2_with fail
        refine (rencode_any _ l w5 HU.out HOK.out (by omega)).mono ?_
        rintro e w6 ⟨rfl, hx6⟩
        have HX6 := Lib.hid (HX5.out.trans hx6)
        clear hx6 HX5 HU
        have hee := encB_refl l
        generalize encB l = s at hee
        go_wp2_with fail
        refine (known_any _).mono ?_
        rintro e wk ⟨rfl, hxk⟩
        have HXK := Lib.hid ((HX6.out).trans hxk)
        clear hxk
        go_wp2_with fail
        go_ret
        exact ⟨rfl, HXK.out⟩
  · have h60B : decide ((60 : Int) < (l.length : Int)) = true := decide_eq_true (by omega)
    have h60C : decide (60 < l.length) = true := decide_eq_true (by omega)
    go_enter Try.func5, Try.ntmps5
    go_wp2_with fail
    refine (known_any _).mono ?_
    rintro e wk ⟨rfl, hxk⟩
    have HXK := Lib.hid ((Ext.refl w).trans hxk)
    clear hxk
    go_wp2_with fail
    go_ret
    exact ⟨rfl, HXK.out⟩
end Go.Proofs.Ytdbboooblbdihaa
