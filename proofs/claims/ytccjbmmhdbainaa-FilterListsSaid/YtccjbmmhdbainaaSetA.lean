/- Package sets: Has, Or, Less, Add, Del walked. -/
import Derived.Test.YtccjbmmhdbainaaSetO
namespace Go.Proofs.Ytccjbmmhdbainaa
open Go.RowKit Sets
set_option linter.unusedVariables false
set_option maxRecDepth 100000

theorem hasB_take (xs : List ByteArray) (s : ByteArray) (k : Nat) (hk : k < xs.length) : hasB (xs.take (k + 1)) s = (hasB (xs.take k) s || decide (xs.getD k ByteArray.empty = s)) := by
  have h : xs.take (k + 1) = xs.take k ++ [xs.getD k ByteArray.empty] := by
    rw [List.take_succ_eq_append_getElem hk]; simp [List.getD_eq_getElem?_getD, List.getElem?_eq_getElem hk]
  have happ : ∀ (l : List ByteArray) (y : ByteArray), hasB (l ++ [y]) s = (hasB l s || decide (y = s)) := by
    intro l y
    induction l with
    | nil => simp [hasB]
    | cons a l ih => simp [hasB, ih, Bool.or_assoc]
  rw [h, happ]

set_option maxHeartbeats 400000 in
theorem has_txt (v : Value) (xs : List ByteArray) (s : ByteArray) (w : World) (h : Txt w v xs) :
    Calls Try.prog 36 #[v, .string s] w fun e w' => e = .returned (.bool (hasB xs s)) ∧ w = w' := by
  obtain ⟨A, n, c, rfl, h1, h2, h3, h4⟩ := h
  have HN := Lib.hid h1
  clear h1
  go_enter Try.func36, Try.ntmps36
  go_wp2
  go_loop [9] (fun i => ∃ k : Nat, k ≤ n ∧ i = .int .i64 k ∧ Hid (hasB (xs.take k) s = false)) (fun i => n - (intOf i).toNat)
  case atStart => exact ⟨0, Nat.zero_le _, rfl, by simp [Hid, hasB]⟩
  case round =>
    obtain ⟨k, hk, rfl, HH⟩ := hrel
    by_cases hlt : k < n
    · obtain ⟨ad, rfl, hc⟩ := h4.some_ (by rw [List.length_map, HN.out]; omega)
      have hc1 := hc k _ (txt_get xs k (by rw [HN.out]; exact hlt))
      have hstep := hasB_take xs s k (by rw [HN.out]; exact hlt)
      generalize xs.getD k ByteArray.empty = x at hc1 hstep
      have HS := Lib.hid hstep
      clear hstep hc
      by_cases hx : x = s
      · subst hx
        go_wp2
        go_ret
        refine ⟨ret_bool ?_, rfl⟩
        rw [hasB_of]
        have h5 : hasB (xs.take (k + 1)) x = true := by rw [HS.out]; simp
        exact List.mem_of_mem_take ((hasB_iff _ _).1 h5)
      · have h5 : (x.toList == s.toList) = false := by
          rw [beq_eq_false_iff_ne]
          exact fun h => hx (text_ext h)
        have HX := Lib.hid hx
        clear hx
        go_wp2
        go_round
        case rel => exact ⟨k + 1, by omega, by go_num, by unfold Hid; rw [HS.out, HH.out]; simp [HX.out]⟩
        case measure => simp [intOf]; omega
    · go_wp2
      go_ret
      refine ⟨ret_bool ?_, rfl⟩
      have := HH.out
      rw [List.take_of_length_le (by rw [HN.out]; omega)] at this
      rw [this]

theorem orF_any (x y : Bool) (w : World) : Calls Try.prog 68 #[.bool x, .bool y] w fun e w' => e = .returned (.bool (orK x y)) ∧ w = w' := by
  go_enter Try.func68, Try.ntmps68
  go_wp2
  go_ret
  exact ⟨rfl, rfl⟩
theorem orF_call (a : Array Value) (w : World) : (callFunc 68 a).run Try.prog w = .ok (.enter 68 a) w := by kernel_rfl
theorem lessF_any (x y : Bool) (w : World) : Calls Try.prog 69 #[.bool x, .bool y] w fun e w' => e = .returned (.bool (lessK x y)) ∧ w = w' := by
  cases x <;> cases y
  all_goals
    go_enter Try.func69, Try.ntmps69
    go_wp2
    go_ret
    exact ⟨rfl, rfl⟩
theorem lessF_call (a : Array Value) (w : World) : (callFunc 69 a).run Try.prog w = .ok (.enter 69 a) w := by kernel_rfl

set_option maxHeartbeats 400000 in
theorem or_txt (va vb : Value) (xs ys : List ByteArray) (w : World) (ha : Txt w va xs) (hb : Txt w vb ys) (hsum : xs.length + ys.length ≤ 4294967296) :
    Calls Try.prog 61 #[va, vb] w fun e w' => ∃ u, e = .returned u ∧ Txt w' u (mk orK xs ys) ∧ Ext w w' := by
  have hx := length_norm_le xs
  have hy := length_norm_le ys
  go_enter Try.func61, Try.ntmps61
  go_wp2_with fail
  refine (of_txt va xs _ ha (by omega)).mono ?_
  rintro e w1 ⟨u1, rfl, hu1, he1⟩
  go_wp2_with fail
  refine (of_txt vb ys _ (hb.ext he1) (by omega)).mono ?_
  rintro e w2 ⟨u2, rfl, hu2, he2⟩
  go_wp2_with fail
  refine (merge_txt orK 68 orF_call orF_any u1 u2 _ _ _ (hu1.ext he2) hu2 (by omega)).mono ?_
  rintro e w3 ⟨u3, rfl, hu3, he3⟩
  go_wp2
  go_ret
  exact ⟨u3, rfl, hu3, he1.trans (he2.trans he3)⟩
set_option maxHeartbeats 400000 in
theorem less_txt (va vb : Value) (xs ys : List ByteArray) (w : World) (ha : Txt w va xs) (hb : Txt w vb ys) (hsum : xs.length + ys.length ≤ 4294967296) :
    Calls Try.prog 63 #[va, vb] w fun e w' => ∃ u, e = .returned u ∧ Txt w' u (mk lessK xs ys) ∧ Ext w w' := by
  have hx := length_norm_le xs
  have hy := length_norm_le ys
  go_enter Try.func63, Try.ntmps63
  go_wp2_with fail
  refine (of_txt va xs _ ha (by omega)).mono ?_
  rintro e w1 ⟨u1, rfl, hu1, he1⟩
  go_wp2_with fail
  refine (of_txt vb ys _ (hb.ext he1) (by omega)).mono ?_
  rintro e w2 ⟨u2, rfl, hu2, he2⟩
  go_wp2_with fail
  refine (merge_txt lessK 69 lessF_call lessF_any u1 u2 _ _ _ (hu1.ext he2) hu2 (by omega)).mono ?_
  rintro e w3 ⟨u3, rfl, hu3, he3⟩
  go_wp2
  go_ret
  exact ⟨u3, rfl, hu3, he1.trans (he2.trans he3)⟩

theorem txt_one (w : World) (s : ByteArray) (t : TypeId) : Txt (w.alloc (.cells #[.string s] t)) (.slice (some ⟨w.heap.size, 0, none⟩) 1 1) [s] :=
  ⟨_, 1, 1, rfl, rfl, by omega, by omega, Rd.new w #[.string s] t⟩

set_option maxHeartbeats 400000 in
theorem add_txt (va : Value) (s : ByteArray) (xs : List ByteArray) (w : World) (ha : Txt w va xs) (hsum : xs.length + 1 ≤ 4294967296) :
    Calls Try.prog 51 #[va, .string s] w fun e w' => ∃ u, e = .returned u ∧ Txt w' u (mk orK xs [s]) ∧ Ext w w' := by
  go_enter Try.func51, Try.ntmps51
  go_wp2_with fail
  refine (or_txt va _ xs [s] _ (ha.ext (Ext.alloc _ _)) (txt_one w s 9) (by simpa using hsum)).mono ?_
  rintro e w1 ⟨u1, rfl, hu1, he1⟩
  go_wp2
  go_ret
  exact ⟨u1, rfl, hu1, (Ext.alloc _ _).trans he1⟩
set_option maxHeartbeats 400000 in
theorem del_txt (va : Value) (s : ByteArray) (xs : List ByteArray) (w : World) (ha : Txt w va xs) (hsum : xs.length + 1 ≤ 4294967296) :
    Calls Try.prog 67 #[va, .string s] w fun e w' => ∃ u, e = .returned u ∧ Txt w' u (mk lessK xs [s]) ∧ Ext w w' := by
  go_enter Try.func67, Try.ntmps67
  go_wp2_with fail
  refine (less_txt va _ xs [s] _ (ha.ext (Ext.alloc _ _)) (txt_one w s 9) (by simpa using hsum)).mono ?_
  rintro e w1 ⟨u1, rfl, hu1, he1⟩
  go_wp2
  go_ret
  exact ⟨u1, rfl, hu1, (Ext.alloc _ _).trans he1⟩

end Go.Proofs.Ytccjbmmhdbainaa
