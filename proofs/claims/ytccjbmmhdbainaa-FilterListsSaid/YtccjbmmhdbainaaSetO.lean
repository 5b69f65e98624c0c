/- The walks of package sets above merge: sorted, Of. -/
import Derived.Test.YtccjbmmhdbainaaSetsM
namespace Go.Proofs.Ytccjbmmhdbainaa
open Go.RowKit Sets
set_option maxRecDepth 100000

theorem rising_yes (A : Option Addr) (n c : Nat) (xs : List ByteArray) (h : rise xs = true) (w : World) (hn : xs.length = n) (hm : n ≤ 9223372036854775807) (hr : Rd w A (xs.map .string)) :
    Calls Try.prog 70 #[.slice A n c] w fun e w' => e = .returned (.bool true) ∧ ∃ q, w' = w.drewN q := by
  rw [← h]; exact rising_any A n c xs w hn hm hr
theorem rising_no (A : Option Addr) (n c : Nat) (xs : List ByteArray) (h : rise xs = false) (w : World) (hn : xs.length = n) (hm : n ≤ 9223372036854775807) (hr : Rd w A (xs.map .string)) :
    Calls Try.prog 70 #[.slice A n c] w fun e w' => e = .returned (.bool false) ∧ ∃ q, w' = w.drewN q := by
  rw [← h]; exact rising_any A n c xs w hn hm hr

theorem merge_txt (k : Bool → Bool → Bool) (kf : FuncId) (hcf : ∀ (a : Array Value) (w : World), (callFunc kf a).run Try.prog w = .ok (.enter kf a) w) (hkf : ∀ x y w, Calls Try.prog kf #[.bool x, .bool y] w fun e w' => e = .returned (.bool (k x y)) ∧ w = w')
    (va vb : Value) (xs ys : List ByteArray) (w : World) (ha : Txt w va xs) (hb : Txt w vb ys) (hsum : xs.length + ys.length ≤ 4294967296) :
    Calls Try.prog 58 #[va, vb, .func (.func kf) #[] #[]] w fun e w' => ∃ v, e = .returned v ∧ Txt w' v (mergeL k xs ys) ∧ Ext w w' := by
  obtain ⟨A, n, c, rfl, h1, h2, h3, h4⟩ := ha
  obtain ⟨B, m, d, rfl, g1, g2, g3, g4⟩ := hb
  exact merge_any k kf hcf hkf A n c xs B m d ys w h1 h2 h3 h4 g1 g2 g3 g4 (by omega)

theorem keepAll_any (x y : Bool) (w : World) : Calls Try.prog 71 #[.bool x, .bool y] w fun e w' => e = .returned (.bool (orK x y)) ∧ w = w' := by
  go_enter Try.func71, Try.ntmps71
  go_wp2
  go_ret
  exact ⟨rfl, rfl⟩
theorem keepAll_call (a : Array Value) (w : World) : (callFunc 71 a).run Try.prog w = .ok (.enter 71 a) w := by kernel_rfl

set_option maxHeartbeats 1000000 in
theorem sorted_any (k : Nat) : ∀ (A : Option Addr) (n c : Nat) (xs : List ByteArray) (w : World), n ≤ k → xs.length = n → n ≤ c → c ≤ 9223372036854775807 → n ≤ 4294967296 → Rd w A (xs.map .string) →
    Calls Try.prog 64 #[.slice A n c] w fun e w' => ∃ v, e = .returned v ∧ Txt w' v (norm xs) ∧ Ext w w' := by
  obtain ⟨i0, hi0, hz0, hz1, hz2⟩ := info_parts Try.strInfo
  induction k with
  | zero =>
    intro A n c xs w hk hn hc hcm hb hr
    obtain rfl : n = 0 := by omega
    obtain rfl : xs = [] := List.eq_nil_of_length_eq_zero hn
    clear hn hk
    go_enter Try.func64, Try.ntmps64
    go_wp2_with (first
      | (go_at_call 70; refine (rising_yes A 0 c [] rfl _ rfl (by omega) (Rd.nil _ _)).mono ?_; rintro e w1 ⟨rfl, q, rfl⟩)
      | (at_builtin
         refine wpList_append_rd _ rfl (.const (.slice none 0 0)) (.tmp 6) 22 rfl w.heap.size 9 i0 (.string ByteArray.empty) 1 16 Try.underlying22 hi0 hz0 hz1 hz2 rfl (by decide) (.slice none 0 0) 0 [] rfl (World.ownsRow_nil _ _ _ _) A 0 c [] rfl rfl (Rd.nil _ _) (by simp) (by simp only [maxLen]; omega) (by omega) (Nat.le_refl _) ?_
         intro v1 w1 happ))
    go_ret
    refine ⟨v1, rfl, txt_own happ.own, ?_⟩
    exact (happ.below (below_drewN (Below.refl _ _) q) (Nat.le_refl _) (by simp [Value.ownBlock]))
  | succ k ih =>
    intro A n c xs w hk hn hc hcm hb hr
    have HN := Lib.hid hn
    have HIH := Lib.hid ih
    clear ih hn
    by_cases hrise : rise xs = true
    · have HRise := Lib.hid hrise
      clear hrise
      go_enter Try.func64, Try.ntmps64
      go_wp2_with (first
        | (go_at_call 70; refine (rising_yes A n c xs HRise.out _ HN.out (by omega) hr).mono ?_; rintro e w1 ⟨rfl, q, rfl⟩)
        | (at_builtin
           refine wpList_append_rd _ rfl (.const (.slice none 0 0)) (.tmp 6) 22 rfl w.heap.size 9 i0 (.string ByteArray.empty) 1 16 Try.underlying22 hi0 hz0 hz1 hz2 rfl (by decide) (.slice none 0 0) 0 [] rfl (World.ownsRow_nil _ _ _ _) A n c (xs.map .string) rfl (by simpa using HN.out) (hr.drewN _) (by simp [Value.oneCell']) (by simp only [maxLen]; omega) (by omega) (Nat.le_refl _) ?_
           intro v1 w1 happ))
      go_ret
      refine ⟨v1, rfl, ?_, ?_⟩
      · rw [norm_of_sd ((rise_iff xs).1 HRise.out)]
        have := happ.own
        rw [List.nil_append, Nat.zero_add, ← HN.out] at this
        exact txt_own this
      · exact (happ.below (below_drewN (Below.refl _ _) q) (Nat.le_refl _) (by simp [Value.ownBlock]))
    · have hn2 : 2 ≤ n := by
        rcases Nat.lt_or_ge n 2 with h | h
        · exfalso
          apply hrise
          match xs, HN.out with
          | [], _ => rfl
          | [a], _ => rfl
          | _ :: _ :: _, h' => simp at h'; omega
        · exact h
      have HRise : Hid (rise xs = false) := Lib.hid (by simpa using hrise)
      clear hrise
      obtain ⟨A1, hA1, hsl1⟩ := cut_upto (P := Try.prog) 22 9 i0 1 Try.underlying22 hi0 hz1 hr hc (n / 2) ((n : Int) / 2) (by omega) (by omega)
      obtain ⟨A2, hA2, hsl2⟩ := cut_from (P := Try.prog) 22 9 i0 1 Try.underlying22 hi0 hz1 hr (by rw [List.length_map, HN.out]; omega) hc (n / 2) ((n : Int) / 2) (by omega) (by omega)
      rw [Nat.mul_one, ← List.map_take] at hA1
      rw [Nat.mul_one, ← List.map_drop] at hA2
      have h1 : 1 ≤ n / 2 := by omega
      have h2 : n / 2 < n := by omega
      go_enter Try.func64, Try.ntmps64
      go_wp2_with (first
        | (go_at_call 70; refine (rising_no _ _ _ xs HRise.out _ HN.out (by omega) hr).mono ?_; rintro e w1 ⟨rfl, q, rfl⟩))
      go_region_held3 (fun _ => True) (trivial) (first
        | (go_at_call_of 64 A1; refine (HIH.out A1 (n / 2) c (xs.take (n / 2)) _ (by omega) (by rw [List.length_take, HN.out]; omega) (by omega) hcm (by omega) (hA1.drewN _)).mono ?_; rintro e w2 ⟨v2, rfl, ht2, he2⟩)
        | (go_at_call_of 64 A2; refine (HIH.out A2 (n - n / 2) (c - n / 2) (xs.drop (n / 2)) _ (by omega) (by rw [List.length_drop, HN.out]) (by omega) (by omega) (by omega) ((hA2.drewN _).ext he2)).mono ?_; rintro e w3 ⟨v3, rfl, ht3, he3⟩)
        | (go_at_call 58; refine (merge_txt orK 71 keepAll_call keepAll_any _ _ _ _ _ (ht2.ext he3) ht3 (by have := length_norm_le (xs.take (n / 2)); have := length_norm_le (xs.drop (n / 2)); rw [List.length_take, List.length_drop] at *; rw [HN.out] at *; omega)).mono ?_; rintro e w4 ⟨v4, rfl, ht4, he4⟩))
      go_wp2
      go_ret
      refine ⟨v4, rfl, ?_, ((Ext.drewN _ w).trans he2).trans (he3.trans he4)⟩
      rw [merge_norm, List.take_append_drop] at ht4
      exact ht4




theorem of_txt (v : Value) (xs : List ByteArray) (w : World) (h : Txt w v xs) (hb : xs.length ≤ 4294967296) :
    Calls Try.prog 44 #[v] w fun e w' => ∃ u, e = .returned u ∧ Txt w' u (norm xs) ∧ Ext w w' := by
  obtain ⟨A, n, c, rfl, h1, h2, h3, h4⟩ := h
  have H := sorted_any n A n c xs w (Nat.le_refl _) h1 h2 h3 (by omega) h4
  have H' := Lib.hid H
  clear H h1 h4 hb h2 h3
  go_enter Try.func44, Try.ntmps44
  go_wp2_with (go_at_call 64; refine H'.out.mono ?_; rintro e w1 ⟨u, rfl, hu, he⟩)
  go_ret
  exact ⟨u, rfl, hu, he⟩

end Go.Proofs.Ytccjbmmhdbainaa
