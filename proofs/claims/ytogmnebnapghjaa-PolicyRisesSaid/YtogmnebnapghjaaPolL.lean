/- The fixed calls (known) of layer 3's statements, and the statements' walks. -/
import Derived.Test.YtogmnebnapghjaaPolN
namespace Go.Proofs.Ytogmnebnapghjaa
open Go.RowKit
set_option linter.unusedVariables false

def tMin : ByteArray := ⟨#[109, 105, 110]⟩
def tMean : ByteArray := ⟨#[109, 101, 97, 110]⟩
theorem p1 : parseN tMin = 4 := by decide +kernel
theorem p2 : parseN tMean = 0 := by decide +kernel
theorem p3 : ((nameL 3).toList == ([76, 65, 83, 84] : List UInt8)) = true := by decide +kernel


set_option maxRecDepth 100000 in
set_option maxHeartbeats 2000000 in
theorem known_any (w : World) : Calls Try.prog 10 #[] w fun e w' => e = .returned (.bool true) ∧ Ext w w' := by
  have E := Ext.refl w
  have hp3 := p3
  go_enter Try.func10, Try.ntmps10
  go_wp2_with fail
  refine (merge_6_yes 3 4 _ (by omega) (by omega) (by omega) (by omega) (by omega) (by omega)).mono ?_
  rintro e w1 ⟨rfl, rfl⟩
  go_wp2_with fail
  refine (merge_1 3 4 _).mono ?_
  rintro e w2 ⟨rfl, rfl⟩
  go_wp2_with fail
  refine (merge_none 7 3 4 _ (by omega)).mono ?_
  rintro e w3 ⟨rfl, rfl⟩
  go_wp2_with fail
  refine (pParse_yes tMin 4 (by omega) (by omega) (parseN_yes p1 (by omega)).1 (parseN_yes p1 (by omega)).2 _ (by decide)).mono ?_
  rintro e w4 ⟨rfl, e4⟩
  replace E := E.trans e4
  go_wp2_with fail
  refine (pParse_no tMean (parseN_no p2) _ (by decide)).mono ?_
  rintro e w5 ⟨rfl, e5⟩
  replace E := E.trans e5
  go_wp2_with fail
  refine (add_no 9223372036854775807 1 _ (by omega) (by omega) (by omega) (by omega) (by omega)).mono ?_
  rintro e w6 ⟨rfl, rfl⟩
  go_wp2_with fail
  refine (cap_up 9223372036854775807 1 _ (by omega) (by omega) (by omega) (by omega) (by omega)).mono ?_
  rintro e w7 ⟨rfl, rfl⟩
  go_wp2_with fail
  refine (cap_down (-9223372036854775808) (-1) _ (by omega) (by omega) (by omega) (by omega) (by omega)).mono ?_
  rintro e w8 ⟨rfl, rfl⟩
  go_wp2_with fail
  refine (pName_yes 3 (by omega) (by omega) _).mono ?_
  rintro e w9 ⟨rfl, e9⟩
  replace E := E.trans e9
  go_wp2_with fail
  refine (pName_no 0 (by omega) _).mono ?_
  rintro e w10 ⟨rfl, e10⟩
  replace E := E.trans e10
  go_wp2_with fail
  refine (right_yes 6 _ (by omega) (by omega)).mono ?_
  rintro e w11 ⟨rfl, rfl⟩
  go_wp2_with fail
  refine (right_no 0 _ (by omega)).mono ?_
  rintro e w12 ⟨rfl, rfl⟩
  go_wp2_with fail
  go_ret
  exact ⟨rfl, E⟩


set_option maxRecDepth 100000 in
set_option maxHeartbeats 2000000 in
theorem policyTells_any (p : Int) (s : ByteArray) (w : World) : Calls Try.prog 3 #[.int .i64 p, .string s] w fun e w' => e = .returned (.bool true) ∧ Ext w w' := by
  have E := Ext.refl w
  by_cases hs : s.size ≤ 100
  · obtain ⟨k, hk⟩ : ∃ k, parseN s = k := ⟨_, rfl⟩
    have hkk : ((k : Int) == (k : Int)) = true := by simp
    have hee : (parseE k == parseE k) = true := by simp
    generalize hE : parseE k = ek at hee
    have HK := Lib.hid hk
    have HE := Lib.hid hE
    clear hk hE
    by_cases hp : 1 ≤ p ∧ p ≤ 6
    · obtain ⟨hp1, hp2⟩ := hp
      obtain ⟨j, rfl⟩ : ∃ j : Nat, p = j := ⟨p.toNat, by omega⟩
      have hj1 : 1 ≤ j := by omega
      have hj2 : j ≤ 6 := by omega
      have hne : (nameL j).toList.isEmpty = false := by
        rcases (by omega : j = 1 ∨ j = 2 ∨ j = 3 ∨ j = 4 ∨ j = 5 ∨ j = 6) with rfl | rfl | rfl | rfl | rfl | rfl <;> decide +kernel
      have hnn : ((nameL j).toList == (nameL j).toList) = true := by simp
      go_enter Try.func3, Try.ntmps3
      go_wp2_with fail
      refine (pParse_any s _ (by omega) k HK.out).mono ?_
      rintro e w1 ⟨rfl, e1⟩
      rw [HE.out]
      replace E := E.trans e1
      go_wp2_with fail
      refine (rParse_any s _ (by omega) k HK.out).mono ?_
      rintro e w2 ⟨rfl, e2⟩
      rw [HE.out]
      replace E := E.trans e2
      go_wp2_with fail
      refine (right_yes _ _ hp1 hp2).mono ?_
      rintro e w3 ⟨rfl, rfl⟩
      go_wp2_with fail
      refine (rName_yes j hj1 hj2 _).mono ?_
      rintro e w4 ⟨rfl, e4⟩
      replace E := E.trans e4
      go_wp2_with fail
      refine (pName_yes j hj1 hj2 _).mono ?_
      rintro e w5 ⟨rfl, e5⟩
      replace E := E.trans e5
      go_wp2_with fail
      refine (rName_yes j hj1 hj2 _).mono ?_
      rintro e w6 ⟨rfl, e6⟩
      replace E := E.trans e6
      go_wp2_with fail
      refine (known_any _).mono ?_
      rintro e wk ⟨rfl, ek⟩
      go_wp2_with fail
      go_ret
      exact ⟨rfl, E.trans ek⟩
    · have hp' : p < 1 ∨ 6 < p := by omega
      clear hp
      go_enter Try.func3, Try.ntmps3
      go_wp2_with fail
      refine (pParse_any s _ (by omega) k HK.out).mono ?_
      rintro e w1 ⟨rfl, e1⟩
      rw [HE.out]
      replace E := E.trans e1
      go_wp2_with fail
      refine (rParse_any s _ (by omega) k HK.out).mono ?_
      rintro e w2 ⟨rfl, e2⟩
      rw [HE.out]
      replace E := E.trans e2
      go_wp2_with fail
      refine (right_no _ _ hp').mono ?_
      rintro e w3 ⟨rfl, rfl⟩
      go_wp2_with fail
      refine (rName_no _ hp' _).mono ?_
      rintro e w4 ⟨rfl, e4⟩
      replace E := E.trans e4
      go_wp2_with fail
      refine (pName_no _ hp' _).mono ?_
      rintro e w5 ⟨rfl, e5⟩
      replace E := E.trans e5
      go_wp2_with fail
      refine (rName_no _ hp' _).mono ?_
      rintro e w6 ⟨rfl, e6⟩
      replace E := E.trans e6
      go_wp2_with fail
      refine (known_any _).mono ?_
      rintro e wk ⟨rfl, ek⟩
      go_wp2_with fail
      go_ret
      exact ⟨rfl, E.trans ek⟩
  · go_enter Try.func3, Try.ntmps3
    go_wp2_with fail
    refine (known_any _).mono ?_
    rintro e wk ⟨rfl, ek⟩
    go_wp2_with fail
    go_ret
    exact ⟨rfl, E.trans ek⟩

/-! ### Values as functions -/
def inI (n : Int) : Bool := decide (-9223372036854775808 ≤ n) && decide (n ≤ 9223372036854775807)
def aV (a b : Int) : Int := if inI (a + b) then a + b else 0
def aE (a b : Int) : Int := if inI (a + b) then 0 else 9
def cV (a b : Int) : Int := if inI (a + b) then a + b else if 0 < b then 9223372036854775807 else -9223372036854775808
def mV (p a b : Int) : Int := if p = 2 then a else if p = 3 then b else if p = 4 then min a b else if p = 5 then max a b else if p = 6 then aV a b else 0
def mE (p a b : Int) : Int := if p = 1 then 8 else if p = 2 then 0 else if p = 3 then 0 else if p = 4 then 0 else if p = 5 then 0 else if p = 6 then aE a b else 1
structure Rg (a : Int) : Prop where
  lo : -9223372036854775808 ≤ a
  hi : a ≤ 9223372036854775807
theorem inI_iff (n : Int) : inI n = true ↔ (-9223372036854775808 ≤ n ∧ n ≤ 9223372036854775807) := by simp [inI]

theorem add_v (a b x e : Int) (ha : Rg a) (hb : Rg b) (hx : aV a b = x) (he : aE a b = e) (w : World) :
    Calls Try.prog 18 #[.int .i64 a, .int .i64 b] w fun e' w' => e' = .returned (.tuple #[.int .i64 x, .int .i64 e]) ∧ w = w' := by
  subst hx he
  unfold aV aE
  cases h : inI (a + b) with
  | true =>
    have h' := (inI_iff _).1 h
    rw [if_pos rfl, if_pos rfl]
    exact add_yes a b w ha.lo ha.hi hb.lo hb.hi h'.1 h'.2
  | false =>
    rw [if_neg (by simp), if_neg (by simp)]
    refine add_no a b w ha.lo ha.hi hb.lo hb.hi ?_
    have h' : ¬ _ := fun hh => by rw [(inI_iff (a + b)).2 hh] at h; cases h
    omega
theorem cap_v (a b x : Int) (ha : Rg a) (hb : Rg b) (hx : cV a b = x) (w : World) :
    Calls Try.prog 20 #[.int .i64 a, .int .i64 b] w fun e' w' => e' = .returned (.int .i64 x) ∧ w = w' := by
  subst hx
  have h1 := ha.lo
  have h2 := ha.hi
  have h3 := hb.lo
  have h4 := hb.hi
  unfold cV
  cases h : inI (a + b) with
  | true =>
    have h' := (inI_iff _).1 h
    rw [if_pos rfl]
    exact cap_yes a b w ha.lo ha.hi hb.lo hb.hi h'.1 h'.2
  | false =>
    rw [if_neg (by simp)]
    have h' : ¬ _ := fun hh => by rw [(inI_iff (a + b)).2 hh] at h; cases h
    by_cases hb0 : 0 < b
    · rw [if_pos hb0]
      exact cap_up a b w ha.lo ha.hi hb.lo hb.hi (by omega)
    · rw [if_neg hb0]
      exact cap_down a b w ha.lo ha.hi hb.lo hb.hi (by omega)
theorem merge_v (p a b x e : Int) (ha : Rg a) (hb : Rg b) (hx : mV p a b = x) (he : mE p a b = e) (w : World) :
    Calls Try.prog 16 #[.int .i64 p, .int .i64 a, .int .i64 b] w fun e' w' => e' = .returned (.tuple #[.int .i64 x, .int .i64 e]) ∧ w = w' := by
  subst hx he
  rcases (by omega : p < 1 ∨ 6 < p ∨ p = 1 ∨ p = 2 ∨ p = 3 ∨ p = 4 ∨ p = 5 ∨ p = 6) with h | h | rfl | rfl | rfl | rfl | rfl | rfl
  · rw [mV, mE]
    repeat rw [if_neg (by omega)]
    exact merge_none p a b w (.inl h)
  · rw [mV, mE]
    repeat rw [if_neg (by omega)]
    exact merge_none p a b w (.inr h)
  · exact merge_1 a b w
  · exact merge_2 a b w
  · exact merge_3 a b w
  · exact merge_4 a b w
  · exact merge_5 a b w
  · show Calls Try.prog 16 _ w fun e' w' => e' = .returned (.tuple #[.int .i64 (aV a b), .int .i64 (aE a b)]) ∧ w = w'
    unfold aV aE
    cases h : inI (a + b) with
    | true =>
      have h' := (inI_iff _).1 h
      rw [if_pos rfl, if_pos rfl]
      exact merge_6_yes a b w ha.lo ha.hi hb.lo hb.hi h'.1 h'.2
    | false =>
      rw [if_neg (by simp), if_neg (by simp)]
      refine merge_6_no a b w ha.lo ha.hi hb.lo hb.hi ?_
      have h' : ¬ _ := fun hh => by rw [(inI_iff (a + b)).2 hh] at h; cases h
      omega
theorem radd_v (a b x e : Int) (ha : Rg a) (hb : Rg b) (hx : aV a b = x) (he : aE a b = e) (w : World) :
    Calls Try.prog 19 #[.int .i64 a, .int .i64 b] w fun e' w' => e' = .returned (.tuple #[.int .i64 x, .int .i64 e]) ∧ w = w' := by
  subst hx he
  unfold aV aE
  cases h : inI (a + b) with
  | true =>
    have h' := (inI_iff _).1 h
    rw [if_pos rfl, if_pos rfl]
    exact radd_yes a b w ha.lo ha.hi hb.lo hb.hi h'.1 h'.2
  | false =>
    rw [if_neg (by simp), if_neg (by simp)]
    refine radd_no a b w ha.lo ha.hi hb.lo hb.hi ?_
    have h' : ¬ _ := fun hh => by rw [(inI_iff (a + b)).2 hh] at h; cases h
    omega
theorem rcap_v (a b x : Int) (ha : Rg a) (hb : Rg b) (hx : cV a b = x) (w : World) :
    Calls Try.prog 21 #[.int .i64 a, .int .i64 b] w fun e' w' => e' = .returned (.int .i64 x) ∧ w = w' := by
  subst hx
  have h1 := ha.lo
  have h2 := ha.hi
  have h3 := hb.lo
  have h4 := hb.hi
  unfold cV
  cases h : inI (a + b) with
  | true =>
    have h' := (inI_iff _).1 h
    rw [if_pos rfl]
    exact rcap_yes a b w ha.lo ha.hi hb.lo hb.hi h'.1 h'.2
  | false =>
    rw [if_neg (by simp)]
    have h' : ¬ _ := fun hh => by rw [(inI_iff (a + b)).2 hh] at h; cases h
    by_cases hb0 : 0 < b
    · rw [if_pos hb0]
      exact rcap_up a b w ha.lo ha.hi hb.lo hb.hi (by omega)
    · rw [if_neg hb0]
      exact rcap_down a b w ha.lo ha.hi hb.lo hb.hi (by omega)
theorem rmerge_v (p a b x e : Int) (ha : Rg a) (hb : Rg b) (hx : mV p a b = x) (he : mE p a b = e) (w : World) :
    Calls Try.prog 17 #[.int .i64 p, .int .i64 a, .int .i64 b] w fun e' w' => e' = .returned (.tuple #[.int .i64 x, .int .i64 e]) ∧ w = w' := by
  subst hx he
  rcases (by omega : p < 1 ∨ 6 < p ∨ p = 1 ∨ p = 2 ∨ p = 3 ∨ p = 4 ∨ p = 5 ∨ p = 6) with h | h | rfl | rfl | rfl | rfl | rfl | rfl
  · rw [mV, mE]
    repeat rw [if_neg (by omega)]
    exact rmerge_none p a b w (.inl h)
  · rw [mV, mE]
    repeat rw [if_neg (by omega)]
    exact rmerge_none p a b w (.inr h)
  · exact rmerge_1 a b w
  · exact rmerge_2 a b w
  · exact rmerge_3 a b w
  · exact rmerge_4 a b w
  · exact rmerge_5 a b w
  · show Calls Try.prog 17 _ w fun e' w' => e' = .returned (.tuple #[.int .i64 (aV a b), .int .i64 (aE a b)]) ∧ w = w'
    unfold aV aE
    cases h : inI (a + b) with
    | true =>
      have h' := (inI_iff _).1 h
      rw [if_pos rfl, if_pos rfl]
      exact rmerge_6_yes a b w ha.lo ha.hi hb.lo hb.hi h'.1 h'.2
    | false =>
      rw [if_neg (by simp), if_neg (by simp)]
      refine rmerge_6_no a b w ha.lo ha.hi hb.lo hb.hi ?_
      have h' : ¬ _ := fun hh => by rw [(inI_iff (a + b)).2 hh] at h; cases h
      omega

theorem aV_rg (a b : Int) : Rg (aV a b) := by
  unfold aV
  cases h : inI (a + b) with
  | true => have h' := (inI_iff _).1 h; rw [if_pos rfl]; exact ⟨h'.1, h'.2⟩
  | false => rw [if_neg (by simp)]; exact ⟨by omega, by omega⟩
theorem cV_rg (a b : Int) : Rg (cV a b) := by
  unfold cV
  cases h : inI (a + b) with
  | true => have h' := (inI_iff _).1 h; rw [if_pos rfl]; exact ⟨h'.1, h'.2⟩
  | false =>
    rw [if_neg (by simp)]
    split <;> exact ⟨by omega, by omega⟩
theorem aV_comm (a b : Int) : aV a b = aV b a := by unfold aV; rw [Int.add_comm]
theorem aE_comm (a b : Int) : aE a b = aE b a := by unfold aE; rw [Int.add_comm]
theorem cV_comm {a b : Int} (ha : Rg a) (hb : Rg b) : cV a b = cV b a := by
  have h1 := ha.lo
  have h2 := ha.hi
  have h3 := hb.lo
  have h4 := hb.hi
  unfold cV
  rw [Int.add_comm b a]
  cases h : inI (a + b) with
  | true => rfl
  | false =>
    have h' : ¬ _ := fun hh => by rw [(inI_iff (a + b)).2 hh] at h; cases h
    simp only [Bool.false_eq_true, if_false]
    by_cases hb0 : 0 < b
    · rw [if_pos hb0, if_pos (by omega)]
    · rw [if_neg hb0, if_neg (by omega)]

set_option maxRecDepth 100000 in
set_option maxHeartbeats 2000000 in
theorem policyMerges_any (p a b : Int) (ha : Rg a) (hb : Rg b) (w : World) : Calls Try.prog 4 #[.int .i64 p, .int .i64 a, .int .i64 b] w fun e w' => e = .returned (.bool true) ∧ Ext w w' := by
  have E := Ext.refl w
  obtain ⟨m, hm⟩ : ∃ m, mV p a b = m := ⟨_, rfl⟩
  obtain ⟨n, hn⟩ : ∃ n, mE p a b = n := ⟨_, rfl⟩
  obtain ⟨x, hx⟩ : ∃ x, aV a b = x := ⟨_, rfl⟩
  obtain ⟨y, hy⟩ : ∃ y, aE a b = y := ⟨_, rfl⟩
  obtain ⟨z, hz⟩ : ∃ z, cV a b = z := ⟨_, rfl⟩
  have h1 : (m == m) = true := by simp
  have h2 : (n == n) = true := by simp
  have h3 : (x == x) = true := by simp
  have h4 : (y == y) = true := by simp
  have h5 : (z == z) = true := by simp
  have HM := Lib.hid hm
  have HN := Lib.hid hn
  have HX := Lib.hid hx
  have HY := Lib.hid hy
  have HZ := Lib.hid hz
  clear hm hn hx hy hz
  go_enter Try.func4, Try.ntmps4
  go_wp2_with fail
  refine (merge_v p a b m n ha hb HM.out HN.out _).mono ?_
  rintro e w1 ⟨rfl, rfl⟩
  go_wp2_with fail
  refine (rmerge_v p a b m n ha hb HM.out HN.out _).mono ?_
  rintro e w2 ⟨rfl, rfl⟩
  go_wp2_with fail
  refine (add_v a b x y ha hb HX.out HY.out _).mono ?_
  rintro e w3 ⟨rfl, rfl⟩
  go_wp2_with fail
  refine (radd_v a b x y ha hb HX.out HY.out _).mono ?_
  rintro e w4 ⟨rfl, rfl⟩
  go_wp2_with fail
  refine (cap_v a b z ha hb HZ.out _).mono ?_
  rintro e w5 ⟨rfl, rfl⟩
  go_wp2_with fail
  refine (rcap_v a b z ha hb HZ.out _).mono ?_
  rintro e w6 ⟨rfl, rfl⟩
  go_wp2_with fail
  refine (known_any _).mono ?_
  rintro e wk ⟨rfl, ek⟩
  go_wp2_with fail
  go_ret
  exact ⟨rfl, E.trans ek⟩

end Go.Proofs.Ytogmnebnapghjaa
