/- The walks of package sets above merge: sorted, Of, Right, Has, And, Or, Less, Add, Del. -/
import Derived.Test.YtafnahmdjmobcaaSetsM
namespace Go.Proofs.Ytafnahmdjmobcaa
open Go.RowKit Sets

theorem rising_yes (A : Option Addr) (n c : Nat) (xs : List ByteArray) (h : rise xs = true) (w : World) (hn : xs.length = n) (hm : n ≤ 9223372036854775807) (hr : Rd w A (xs.map .string)) :
    Calls Try.prog 26 #[.slice A n c] w fun e w' => e = .returned (.bool true) ∧ ∃ q, w' = w.drewN q := by
  rw [← h]; exact rising_any A n c xs w hn hm hr
theorem rising_no (A : Option Addr) (n c : Nat) (xs : List ByteArray) (h : rise xs = false) (w : World) (hn : xs.length = n) (hm : n ≤ 9223372036854775807) (hr : Rd w A (xs.map .string)) :
    Calls Try.prog 26 #[.slice A n c] w fun e w' => e = .returned (.bool false) ∧ ∃ q, w' = w.drewN q := by
  rw [← h]; exact rising_any A n c xs w hn hm hr

theorem merge_txt (k : Bool → Bool → Bool) (kf : FuncId) (hcf : ∀ (a : Array Value) (w : World), (callFunc kf a).run Try.prog w = .ok (.enter kf a) w) (hkf : ∀ x y w, Calls Try.prog kf #[.bool x, .bool y] w fun e w' => e = .returned (.bool (k x y)) ∧ w = w')
    (va vb : Value) (xs ys : List ByteArray) (w : World) (ha : Txt w va xs) (hb : Txt w vb ys) (hsum : xs.length + ys.length ≤ 4294967296) :
    Calls Try.prog 29 #[va, vb, .func (.func kf) #[] #[]] w fun e w' => ∃ v, e = .returned v ∧ Txt w' v (mergeL k xs ys) ∧ Ext w w' := by
  obtain ⟨A, n, c, rfl, h1, h2, h3, h4⟩ := ha
  obtain ⟨B, m, d, rfl, g1, g2, g3, g4⟩ := hb
  exact merge_any k kf hcf hkf A n c xs B m d ys w h1 h2 h3 h4 g1 g2 g3 g4 (by omega)

theorem keepAll_any (x y : Bool) (w : World) : Calls Try.prog 33 #[.bool x, .bool y] w fun e w' => e = .returned (.bool (orK x y)) ∧ w = w' := by
  go_enter Try.func33, Try.ntmps33
  go_wp2
  go_ret
  exact ⟨rfl, rfl⟩
theorem keepAll_call (a : Array Value) (w : World) : (callFunc 33 a).run Try.prog w = .ok (.enter 33 a) w := by kernel_rfl

set_option maxHeartbeats 1000000 in
theorem sorted_any (k : Nat) : ∀ (A : Option Addr) (n c : Nat) (xs : List ByteArray) (w : World), n ≤ k → xs.length = n → n ≤ c → c ≤ 9223372036854775807 → n ≤ 4294967296 → Rd w A (xs.map .string) →
    Calls Try.prog 28 #[.slice A n c] w fun e w' => ∃ v, e = .returned v ∧ Txt w' v (norm xs) ∧ Ext w w' := by
  obtain ⟨i0, hi0, hz0, hz1, hz2⟩ := info_parts Try.strInfo
  induction k with
  | zero =>
    intro A n c xs w hk hn hc hcm hb hr
    obtain rfl : n = 0 := by omega
    obtain rfl : xs = [] := List.eq_nil_of_length_eq_zero hn
    clear hn hk
    go_enter Try.func28, Try.ntmps28
    go_wp2_with (first
      | (go_at_call 26; refine (rising_yes A 0 c [] rfl _ rfl (by omega) (Rd.nil _ _)).mono ?_; rintro e w1 ⟨rfl, q, rfl⟩)
      | (at_builtin
         refine wpList_append_rd _ rfl (.const (.slice none 0 0)) (.tmp 6) 22 rfl w.heap.size 9 i0 (.string ByteArray.empty) 1 16 Try.underlying22 hi0 hz0 hz1 hz2 rfl (by decide) (.slice none 0 0) 0 [] rfl (World.ownsRow_nil _ _ _ _) A 0 c [] rfl rfl (Rd.nil _ _) (by simp) (by simp only [maxLen]; omega) (by omega) (Nat.le_refl _) ?_
         intro v1 w1 happ))
    go_ret
    refine ⟨v1, rfl, txt_own happ.own, ?_⟩
    exact (happ.below (below_drewN (Below.refl _ _) q) (Nat.le_refl _) (by simp [Value.ownBlock]))
  | succ k ih =>
    intro A n c xs w hk hn hc hcm hb hr
    have HN := Lib.hid hn
    have HIH := Lib.hid ih
    clear ih hn
    by_cases hrise : rise xs = true
    · have HRise := Lib.hid hrise
      clear hrise
      go_enter Try.func28, Try.ntmps28
      go_wp2_with (first
        | (go_at_call 26; refine (rising_yes A n c xs HRise.out _ HN.out (by omega) hr).mono ?_; rintro e w1 ⟨rfl, q, rfl⟩)
        | (at_builtin
           refine wpList_append_rd _ rfl (.const (.slice none 0 0)) (.tmp 6) 22 rfl w.heap.size 9 i0 (.string ByteArray.empty) 1 16 Try.underlying22 hi0 hz0 hz1 hz2 rfl (by decide) (.slice none 0 0) 0 [] rfl (World.ownsRow_nil _ _ _ _) A n c (xs.map .string) rfl (by simpa using HN.out) (hr.drewN _) (by simp [Value.oneCell']) (by simp only [maxLen]; omega) (by omega) (Nat.le_refl _) ?_
           intro v1 w1 happ))
      go_ret
      refine ⟨v1, rfl, ?_, ?_⟩
      · rw [norm_of_sd ((rise_iff xs).1 HRise.out)]
        have := happ.own
        rw [List.nil_append, Nat.zero_add, ← HN.out] at this
        exact txt_own this
      · exact (happ.below (below_drewN (Below.refl _ _) q) (Nat.le_refl _) (by simp [Value.ownBlock]))
    · have hn2 : 2 ≤ n := by
        rcases Nat.lt_or_ge n 2 with h | h
        · exfalso
          apply hrise
          match xs, HN.out with
          | [], _ => rfl
          | [a], _ => rfl
          | _ :: _ :: _, h' => simp at h'; omega
        · exact h
      have HRise : Hid (rise xs = false) := Lib.hid (by simpa using hrise)
      clear hrise
      obtain ⟨A1, hA1, hsl1⟩ := cut_upto (P := Try.prog) 22 9 i0 1 Try.underlying22 hi0 hz1 hr hc (n / 2) ((n : Int) / 2) (by omega) (by omega)
      obtain ⟨A2, hA2, hsl2⟩ := cut_from (P := Try.prog) 22 9 i0 1 Try.underlying22 hi0 hz1 hr (by rw [List.length_map, HN.out]; omega) hc (n / 2) ((n : Int) / 2) (by omega) (by omega)
      rw [Nat.mul_one, ← List.map_take] at hA1
      rw [Nat.mul_one, ← List.map_drop] at hA2
      have h1 : 1 ≤ n / 2 := by omega
      have h2 : n / 2 < n := by omega
      go_enter Try.func28, Try.ntmps28
      go_wp2_with (first
        | (go_at_call 26; refine (rising_no _ _ _ xs HRise.out _ HN.out (by omega) hr).mono ?_; rintro e w1 ⟨rfl, q, rfl⟩))
      go_region_held3 (fun _ => True) (trivial) (first
        | (go_at_call_of 28 A1; refine (HIH.out A1 (n / 2) c (xs.take (n / 2)) _ (by omega) (by rw [List.length_take, HN.out]; omega) (by omega) hcm (by omega) (hA1.drewN _)).mono ?_; rintro e w2 ⟨v2, rfl, ht2, he2⟩)
        | (go_at_call_of 28 A2; refine (HIH.out A2 (n - n / 2) (c - n / 2) (xs.drop (n / 2)) _ (by omega) (by rw [List.length_drop, HN.out]) (by omega) (by omega) (by omega) ((hA2.drewN _).ext he2)).mono ?_; rintro e w3 ⟨v3, rfl, ht3, he3⟩)
        | (go_at_call 29; refine (merge_txt orK 33 keepAll_call keepAll_any _ _ _ _ _ (ht2.ext he3) ht3 (by have := length_norm_le (xs.take (n / 2)); have := length_norm_le (xs.drop (n / 2)); rw [List.length_take, List.length_drop] at *; rw [HN.out] at *; omega)).mono ?_; rintro e w4 ⟨v4, rfl, ht4, he4⟩))
      go_wp2
      go_ret
      refine ⟨v4, rfl, ?_, ((Ext.drewN _ w).trans he2).trans (he3.trans he4)⟩
      rw [merge_norm, List.take_append_drop] at ht4
      exact ht4



theorem of_txt (v : Value) (xs : List ByteArray) (w : World) (h : Txt w v xs) (hb : xs.length ≤ 4294967296) :
    Calls Try.prog 15 #[v] w fun e w' => ∃ u, e = .returned u ∧ Txt w' u (norm xs) ∧ Ext w w' := by
  obtain ⟨A, n, c, rfl, h1, h2, h3, h4⟩ := h
  have H := sorted_any n A n c xs w (Nat.le_refl _) h1 h2 h3 (by omega) h4
  have H' := Lib.hid H
  clear H h1 h4 hb h2 h3
  go_enter Try.func15, Try.ntmps15
  go_wp2_with (go_at_call 28; refine H'.out.mono ?_; rintro e w1 ⟨u, rfl, hu, he⟩)
  go_ret
  exact ⟨u, rfl, hu, he⟩

theorem right_txt (v : Value) (xs : List ByteArray) (w : World) (h : Txt w v xs) :
    Calls Try.prog 12 #[v] w fun e w' => e = .returned (.bool (rise xs)) ∧ ∃ q, w' = w.drewN q := by
  obtain ⟨A, n, c, rfl, h1, h2, h3, h4⟩ := h
  have H' := Lib.hid (rising_any A n c xs w h1 (by omega) h4)
  clear h1 h4 h2 h3
  go_enter Try.func12, Try.ntmps12
  go_wp2_with (go_at_call 26; refine H'.out.mono ?_; rintro e w1 ⟨rfl, q, rfl⟩)
  go_ret
  exact ⟨rfl, q, rfl⟩

theorem hasB_take (xs : List ByteArray) (s : ByteArray) (k : Nat) (hk : k < xs.length) : hasB (xs.take (k + 1)) s = (hasB (xs.take k) s || decide (xs.getD k ByteArray.empty = s)) := by
  have h : xs.take (k + 1) = xs.take k ++ [xs.getD k ByteArray.empty] := by
    rw [List.take_succ_eq_append_getElem hk]; simp [List.getD_eq_getElem?_getD, List.getElem?_eq_getElem hk]
  have happ : ∀ (l : List ByteArray) (y : ByteArray), hasB (l ++ [y]) s = (hasB l s || decide (y = s)) := by
    intro l y
    induction l with
    | nil => simp [hasB]
    | cons a l ih => simp [hasB, ih, Bool.or_assoc]
  rw [h, happ]

set_option maxHeartbeats 400000 in
theorem has_txt (v : Value) (xs : List ByteArray) (s : ByteArray) (w : World) (h : Txt w v xs) :
    Calls Try.prog 16 #[v, .string s] w fun e w' => e = .returned (.bool (hasB xs s)) ∧ w = w' := by
  obtain ⟨A, n, c, rfl, h1, h2, h3, h4⟩ := h
  have HN := Lib.hid h1
  clear h1
  go_enter Try.func16, Try.ntmps16
  go_wp2
  go_loop [9] (fun i => ∃ k : Nat, k ≤ n ∧ i = .int .i64 k ∧ Hid (hasB (xs.take k) s = false)) (fun i => n - (intOf i).toNat)
  case atStart => exact ⟨0, Nat.zero_le _, rfl, by simp [Hid, hasB]⟩
  case round =>
    obtain ⟨k, hk, rfl, HH⟩ := hrel
    by_cases hlt : k < n
    · obtain ⟨ad, rfl, hc⟩ := h4.some_ (by rw [List.length_map, HN.out]; omega)
      have hc1 := hc k _ (txt_get xs k (by rw [HN.out]; exact hlt))
      have hstep := hasB_take xs s k (by rw [HN.out]; exact hlt)
      generalize xs.getD k ByteArray.empty = x at hc1 hstep
      have HS := Lib.hid hstep
      clear hstep hc
      by_cases hx : x = s
      · subst hx
        go_wp2
        go_ret
        refine ⟨ret_bool ?_, rfl⟩
        rw [hasB_of]
        have h5 : hasB (xs.take (k + 1)) x = true := by rw [HS.out]; simp
        exact List.mem_of_mem_take ((hasB_iff _ _).1 h5)
      · have h5 : (x.toList == s.toList) = false := by
          rw [beq_eq_false_iff_ne]
          exact fun h => hx (text_ext h)
        have HX := Lib.hid hx
        clear hx
        go_wp2
        go_round
        case rel => exact ⟨k + 1, by omega, by go_num, by unfold Hid; rw [HS.out, HH.out]; simp [HX.out]⟩
        case measure => simp [intOf]; omega
    · go_wp2
      go_ret
      refine ⟨ret_bool ?_, rfl⟩
      have := HH.out
      rw [List.take_of_length_le (by rw [HN.out]; omega)] at this
      rw [this]

theorem andF_any (x y : Bool) (w : World) : Calls Try.prog 30 #[.bool x, .bool y] w fun e w' => e = .returned (.bool (andK x y)) ∧ w = w' := by
  cases x <;> cases y
  all_goals
    go_enter Try.func30, Try.ntmps30
    go_wp2
    go_ret
    exact ⟨rfl, rfl⟩
theorem andF_call (a : Array Value) (w : World) : (callFunc 30 a).run Try.prog w = .ok (.enter 30 a) w := by kernel_rfl
theorem orF_any (x y : Bool) (w : World) : Calls Try.prog 32 #[.bool x, .bool y] w fun e w' => e = .returned (.bool (orK x y)) ∧ w = w' := by
  go_enter Try.func32, Try.ntmps32
  go_wp2
  go_ret
  exact ⟨rfl, rfl⟩
theorem orF_call (a : Array Value) (w : World) : (callFunc 32 a).run Try.prog w = .ok (.enter 32 a) w := by kernel_rfl
theorem lessF_any (x y : Bool) (w : World) : Calls Try.prog 31 #[.bool x, .bool y] w fun e w' => e = .returned (.bool (lessK x y)) ∧ w = w' := by
  cases x <;> cases y
  all_goals
    go_enter Try.func31, Try.ntmps31
    go_wp2
    go_ret
    exact ⟨rfl, rfl⟩
theorem lessF_call (a : Array Value) (w : World) : (callFunc 31 a).run Try.prog w = .ok (.enter 31 a) w := by kernel_rfl

set_option maxHeartbeats 400000 in
theorem and_txt (va vb : Value) (xs ys : List ByteArray) (w : World) (ha : Txt w va xs) (hb : Txt w vb ys) (hsum : xs.length + ys.length ≤ 4294967296) :
    Calls Try.prog 18 #[va, vb] w fun e w' => ∃ u, e = .returned u ∧ Txt w' u (mk andK xs ys) ∧ Ext w w' := by
  have hx := length_norm_le xs
  have hy := length_norm_le ys
  go_enter Try.func18, Try.ntmps18
  go_wp2_with fail
  refine (of_txt va xs _ ha (by omega)).mono ?_
  rintro e w1 ⟨u1, rfl, hu1, he1⟩
  go_wp2_with fail
  refine (of_txt vb ys _ (hb.ext he1) (by omega)).mono ?_
  rintro e w2 ⟨u2, rfl, hu2, he2⟩
  go_wp2_with fail
  refine (merge_txt andK 30 andF_call andF_any u1 u2 _ _ _ (hu1.ext he2) hu2 (by omega)).mono ?_
  rintro e w3 ⟨u3, rfl, hu3, he3⟩
  go_wp2
  go_ret
  exact ⟨u3, rfl, hu3, he1.trans (he2.trans he3)⟩
set_option maxHeartbeats 400000 in
theorem or_txt (va vb : Value) (xs ys : List ByteArray) (w : World) (ha : Txt w va xs) (hb : Txt w vb ys) (hsum : xs.length + ys.length ≤ 4294967296) :
    Calls Try.prog 21 #[va, vb] w fun e w' => ∃ u, e = .returned u ∧ Txt w' u (mk orK xs ys) ∧ Ext w w' := by
  have hx := length_norm_le xs
  have hy := length_norm_le ys
  go_enter Try.func21, Try.ntmps21
  go_wp2_with fail
  refine (of_txt va xs _ ha (by omega)).mono ?_
  rintro e w1 ⟨u1, rfl, hu1, he1⟩
  go_wp2_with fail
  refine (of_txt vb ys _ (hb.ext he1) (by omega)).mono ?_
  rintro e w2 ⟨u2, rfl, hu2, he2⟩
  go_wp2_with fail
  refine (merge_txt orK 32 orF_call orF_any u1 u2 _ _ _ (hu1.ext he2) hu2 (by omega)).mono ?_
  rintro e w3 ⟨u3, rfl, hu3, he3⟩
  go_wp2
  go_ret
  exact ⟨u3, rfl, hu3, he1.trans (he2.trans he3)⟩
set_option maxHeartbeats 400000 in
theorem less_txt (va vb : Value) (xs ys : List ByteArray) (w : World) (ha : Txt w va xs) (hb : Txt w vb ys) (hsum : xs.length + ys.length ≤ 4294967296) :
    Calls Try.prog 20 #[va, vb] w fun e w' => ∃ u, e = .returned u ∧ Txt w' u (mk lessK xs ys) ∧ Ext w w' := by
  have hx := length_norm_le xs
  have hy := length_norm_le ys
  go_enter Try.func20, Try.ntmps20
  go_wp2_with fail
  refine (of_txt va xs _ ha (by omega)).mono ?_
  rintro e w1 ⟨u1, rfl, hu1, he1⟩
  go_wp2_with fail
  refine (of_txt vb ys _ (hb.ext he1) (by omega)).mono ?_
  rintro e w2 ⟨u2, rfl, hu2, he2⟩
  go_wp2_with fail
  refine (merge_txt lessK 31 lessF_call lessF_any u1 u2 _ _ _ (hu1.ext he2) hu2 (by omega)).mono ?_
  rintro e w3 ⟨u3, rfl, hu3, he3⟩
  go_wp2
  go_ret
  exact ⟨u3, rfl, hu3, he1.trans (he2.trans he3)⟩

theorem txt_one (w : World) (s : ByteArray) (t : TypeId) : Txt (w.alloc (.cells #[.string s] t)) (.slice (some ⟨w.heap.size, 0, none⟩) 1 1) [s] :=
  ⟨_, 1, 1, rfl, rfl, by omega, by omega, Rd.new w #[.string s] t⟩

set_option maxHeartbeats 400000 in
theorem add_txt (va : Value) (s : ByteArray) (xs : List ByteArray) (w : World) (ha : Txt w va xs) (hsum : xs.length + 1 ≤ 4294967296) :
    Calls Try.prog 23 #[va, .string s] w fun e w' => ∃ u, e = .returned u ∧ Txt w' u (mk orK xs [s]) ∧ Ext w w' := by
  go_enter Try.func23, Try.ntmps23
  go_wp2_with fail
  refine (or_txt va _ xs [s] _ (ha.ext (Ext.alloc _ _)) (txt_one w s 9) (by simpa using hsum)).mono ?_
  rintro e w1 ⟨u1, rfl, hu1, he1⟩
  go_wp2
  go_ret
  exact ⟨u1, rfl, hu1, (Ext.alloc _ _).trans he1⟩
set_option maxHeartbeats 400000 in
theorem del_txt (va : Value) (s : ByteArray) (xs : List ByteArray) (w : World) (ha : Txt w va xs) (hsum : xs.length + 1 ≤ 4294967296) :
    Calls Try.prog 24 #[va, .string s] w fun e w' => ∃ u, e = .returned u ∧ Txt w' u (mk lessK xs [s]) ∧ Ext w w' := by
  go_enter Try.func24, Try.ntmps24
  go_wp2_with fail
  refine (less_txt va _ xs [s] _ (ha.ext (Ext.alloc _ _)) (txt_one w s 9) (by simpa using hsum)).mono ?_
  rintro e w1 ⟨u1, rfl, hu1, he1⟩
  go_wp2
  go_ret
  exact ⟨u1, rfl, hu1, (Ext.alloc _ _).trans he1⟩

end Go.Proofs.Ytafnahmdjmobcaa
