/- The document's answer: items, replies. -/
import Derived.Test.YtdbboooblbdihaaRspM
import Derived.Test.YtdbboooblbdihaaRspI
namespace Go.Proofs.Ytdbboooblbdihaa
open Go.RowKit
set_option linter.unusedVariables false
set_option linter.unusedSectionVars false
set_option linter.unusedSimpArgs false
set_option maxRecDepth 100000


theorem drop_cons2 (s : ByteArray) (k : Nat) (h : k < s.size) : ∃ c, s.toList.drop k = c :: s.toList.drop (k + 1) ∧ s[k] = c := by
  have hl : k < s.toList.length := by rw [size_list]; exact h
  have hd := List.drop_eq_getElem_cons hl
  exact ⟨_, hd, (byte_of hd).2⟩
def plainS (s : ByteArray) : Prop := (∀ c ∈ s.toList, plainB c) ∧ s.size ≤ 128
instance (s : ByteArray) : Decidable (plainS s) := inferInstanceAs (Decidable (_ ∧ _))
theorem rplain_any (s : ByteArray) (w : World) (hz : s.size ≤ 9223372036854775807) : Calls Try.prog 53 #[.string s] w fun e w' => e = .returned (.bool (decide (plainS s))) ∧ w = w' := by
  go_enter Try.func53, Try.ntmps53
  go_wp2_with fail
  go_loopw [3] (fun iv wr => ∃ k : Nat, k ≤ s.size ∧ iv = .int .i64 (k : Int) ∧ (∀ c ∈ s.toList.take k, plainB c) ∧ wr = w) (fun iv _ => s.size - (intOf iv).toNat)
  case atStart => exact ⟨0, by omega, rfl, by simp, rfl⟩
  case round =>
    obtain ⟨k, hk, rfl, hall, rfl⟩ := hrel
    have HALL := Lib.hid hall
    clear hall
    by_cases hkn : k < s.size
    · have hkI : (k : Int) < (s.size : Int) := by omega
      have hkJ : (0 : Int) ≤ (k : Int) := by omega
      obtain ⟨c, hd, hsk⟩ := drop_cons2 s k hkn
      have hgt := get_byte s k hkn
      rw [hsk] at hgt
      have HG := Lib.hid hgt
      have hcl := c.toNat_lt
      clear hd hgt
      by_cases h1 : 32 ≤ c.toNat
      · have h1I : decide ((c.toNat : Int) < 32) = false := decide_eq_false (by omega)
        have h1J : ¬ (c.toNat : Int) < 32 := by omega
        by_cases h2 : c.toNat ≤ 126
        · have h2J : ¬ (126 : Int) < (c.toNat : Int) := by omega
          go_wp2_with fail
          go_roundw
          case rel => exact ⟨k + 1, by omega, by go_num, take_all HALL.out HG.out ⟨h1, h2⟩, trivial⟩
          case measure => simp [intOf]; omega
        · have h2J : (126 : Int) < (c.toNat : Int) := by omega
          have hf : Hid (¬ plainS s) := Lib.hid (fun h => h2 (h.1 c (List.mem_of_getElem? HG.out)).2)
          go_wp2_with fail
          go_ret
          exact ⟨ret_f hf.out, rfl⟩
      · have h1J : (c.toNat : Int) < 32 := by omega
        have hf : Hid (¬ plainS s) := Lib.hid (fun h => h1 (h.1 c (List.mem_of_getElem? HG.out)).1)
        go_wp2_with fail
        go_ret
        exact ⟨ret_f hf.out, rfl⟩
    · obtain rfl : k = s.size := by omega
      have HAL := Lib.hid (show ∀ c ∈ s.toList, plainB c from fun c hc => HALL.out c (by rw [List.take_of_length_le (by rw [size_list]; exact Nat.le_refl _)]; exact hc))
      go_wp2_with fail
      go_ret
      refine ⟨ret_d (by unfold plainS; constructor; exact fun h => ⟨HAL.out, by omega⟩; exact fun h => by have := h.2; omega), rfl⟩
theorem one_o (k n : Int) (s : ByteArray) (w : World) (h1 : ¬ k = 1) (h2 : ¬ k = 2) (h3 : ¬ k = 3) (h4 : ¬ k = 4) (h5 : ¬ k = 5) (h6 : ¬ k = 6) :
    Calls Try.prog 39 #[.agg #[.int .i64 k, .int .i64 n, .string s]] w fun e w' => e = .returned (.bool (decide (right1 ⟨k, n, s⟩))) ∧ Ext w w' := by
  go_enter Try.func39, Try.ntmps39
  go_wp2_with fail
  go_ret
  refine ⟨ret_f ?_, Ext.alloc _ _⟩
  rw [right1]
  dsimp only
  omega
theorem emp_of {s : ByteArray} (h : s.size = 0) : s = ⟨#[]⟩ := bytes_ext ((List.eq_nil_of_length_eq_zero (by rw [size_list]; exact h)).trans (toList_mk []).symm)
theorem nemp_of {s : ByteArray} (h : ¬ s.size = 0) : (s.toList == []) = false := by
  rw [beq_eq_false_iff_ne]
  intro e
  have := size_list s
  rw [e] at this
  exact h this.symm
theorem one_3 (n : Int) (s : ByteArray) (w : World) (hx : s.size ≤ 9223372036854775807) :
    Calls Try.prog 39 #[.agg #[.int .i64 3, .int .i64 n, .string s]] w fun e w' => e = .returned (.bool (decide (right1 ⟨3, n, s⟩))) ∧ Ext w w' := by
  by_cases hs0 : s.size = 0
  · obtain rfl := emp_of hs0
    have hz : (⟨#[]⟩ : ByteArray).size = 0 := rfl
    go_enter Try.func39, Try.ntmps39
    go_wp2_with fail
    all_goals (
      go_ret
      refine ⟨?_, Ext.alloc _ _⟩
      first | refine ret_t (P := right1 _) ?_ | refine ret_f (P := right1 _) ?_ | refine ret_d (P := right1 _) ?_
      all_goals (rw [right1]; dsimp only; omega))
  · have hE := nemp_of hs0
    go_enter Try.func39, Try.ntmps39
    go_wp2_with fail
    all_goals (
      go_ret
      refine ⟨?_, Ext.alloc _ _⟩
      refine ret_f (P := right1 _) ?_
      rw [right1]; dsimp only; omega)
theorem one_4 (n : Int) (s : ByteArray) (w : World) (hx : s.size ≤ 9223372036854775807) :
    Calls Try.prog 39 #[.agg #[.int .i64 4, .int .i64 n, .string s]] w fun e w' => e = .returned (.bool (decide (right1 ⟨4, n, s⟩))) ∧ Ext w w' := by
  go_enter Try.func39, Try.ntmps39
  go_wp2_with fail
  all_goals (
    go_ret
    refine ⟨?_, Ext.alloc _ _⟩
    first | refine ret_t ?_ | refine ret_f ?_ | refine ret_d ?_
    all_goals (first | have he := emp_size (by assumption) | have he := nemp_size (by assumption) | skip)
    all_goals (rw [right1]; dsimp only; omega))
theorem one_5 (n : Int) (s : ByteArray) (w : World) (hx : s.size ≤ 9223372036854775807) :
    Calls Try.prog 39 #[.agg #[.int .i64 5, .int .i64 n, .string s]] w fun e w' => e = .returned (.bool (decide (right1 ⟨5, n, s⟩))) ∧ Ext w w' := by
  by_cases hs0 : s.size = 0
  · obtain rfl := emp_of hs0
    have hz : (⟨#[]⟩ : ByteArray).size = 0 := rfl
    go_enter Try.func39, Try.ntmps39
    go_wp2_with fail
    all_goals (
      go_ret
      refine ⟨?_, Ext.alloc _ _⟩
      first | refine ret_t (P := right1 _) ?_ | refine ret_f (P := right1 _) ?_ | refine ret_d (P := right1 _) ?_
      all_goals (rw [right1]; dsimp only; omega))
  · have hE := nemp_of hs0
    go_enter Try.func39, Try.ntmps39
    go_wp2_with fail
    all_goals (
      go_ret
      refine ⟨?_, Ext.alloc _ _⟩
      refine ret_f (P := right1 _) ?_
      rw [right1]; dsimp only; omega)
theorem one_6 (n : Int) (s : ByteArray) (w : World) (hx : s.size ≤ 9223372036854775807) :
    Calls Try.prog 39 #[.agg #[.int .i64 6, .int .i64 n, .string s]] w fun e w' => e = .returned (.bool (decide (right1 ⟨6, n, s⟩))) ∧ Ext w w' := by
  by_cases hs0 : s.size = 0
  · obtain rfl := emp_of hs0
    have hz : (⟨#[]⟩ : ByteArray).size = 0 := rfl
    go_enter Try.func39, Try.ntmps39
    go_wp2_with fail
    all_goals (
      go_ret
      refine ⟨?_, Ext.alloc _ _⟩
      first | refine ret_t (P := right1 _) ?_ | refine ret_f (P := right1 _) ?_ | refine ret_d (P := right1 _) ?_
      all_goals (rw [right1]; dsimp only; omega))
  · have hE := nemp_of hs0
    go_enter Try.func39, Try.ntmps39
    go_wp2_with fail
    all_goals (
      go_ret
      refine ⟨?_, Ext.alloc _ _⟩
      refine ret_f (P := right1 _) ?_
      rw [right1]; dsimp only; omega)
theorem one_1 (n : Int) (s : ByteArray) (w : World) (hx : s.size ≤ 9223372036854775807) :
    Calls Try.prog 39 #[.agg #[.int .i64 1, .int .i64 n, .string s]] w fun e w' => e = .returned (.bool (decide (right1 ⟨1, n, s⟩))) ∧ Ext w w' := by
  by_cases hn : n = 0
  · subst hn
    have hR : decide (right1 ⟨1, 0, s⟩) = decide (plainS s) := by
      rw [decide_eq_decide, right1]
      dsimp only
      unfold plainS
      constructor
      · rintro (⟨_, _, h, h2⟩ | ⟨h, _⟩ | ⟨h, _⟩ | ⟨h, _⟩ | ⟨h, _⟩)
        · exact ⟨h, h2⟩
        all_goals exact absurd h (by decide)
      · rintro ⟨h, h2⟩
        exact .inl ⟨.inl rfl, rfl, h, h2⟩
    rw [hR]
    clear hR
    go_enter Try.func39, Try.ntmps39
    go_wp2_with fail
    refine (rplain_any s _ hx).mono ?_
    rintro e w1 ⟨rfl, rfl⟩
    go_wp2_with fail
    go_ret
    exact ⟨rfl, Ext.alloc _ _⟩
  · have hnB : (n == 0) = false := by simpa using hn
    go_enter Try.func39, Try.ntmps39
    go_wp2_with fail
    go_ret
    refine ⟨ret_f (P := right1 _) ?_, Ext.alloc _ _⟩
    rw [right1]
    dsimp only
    omega
theorem one_2 (n : Int) (s : ByteArray) (w : World) (hx : s.size ≤ 9223372036854775807) :
    Calls Try.prog 39 #[.agg #[.int .i64 2, .int .i64 n, .string s]] w fun e w' => e = .returned (.bool (decide (right1 ⟨2, n, s⟩))) ∧ Ext w w' := by
  by_cases hn : n = 0
  · subst hn
    have hR : decide (right1 ⟨2, 0, s⟩) = decide (plainS s) := by
      rw [decide_eq_decide, right1]
      dsimp only
      unfold plainS
      constructor
      · rintro (⟨_, _, h, h2⟩ | ⟨h, _⟩ | ⟨h, _⟩ | ⟨h, _⟩ | ⟨h, _⟩)
        · exact ⟨h, h2⟩
        all_goals exact absurd h (by decide)
      · rintro ⟨h, h2⟩
        exact .inl ⟨.inr rfl, rfl, h, h2⟩
    rw [hR]
    clear hR
    go_enter Try.func39, Try.ntmps39
    go_wp2_with fail
    refine (rplain_any s _ hx).mono ?_
    rintro e w1 ⟨rfl, rfl⟩
    go_wp2_with fail
    go_ret
    exact ⟨rfl, Ext.alloc _ _⟩
  · have hnB : (n == 0) = false := by simpa using hn
    go_enter Try.func39, Try.ntmps39
    go_wp2_with fail
    go_ret
    refine ⟨ret_f (P := right1 _) ?_, Ext.alloc _ _⟩
    rw [right1]
    dsimp only
    omega
theorem one_any (x : Itm) (w : World) (hx : ItmOk x) : Calls Try.prog 39 #[itV x] w fun e w' => e = .returned (.bool (decide (right1 x))) ∧ Ext w w' := by
  obtain ⟨k, n, s⟩ := x
  obtain ⟨_, _, hn1, hn2, hs⟩ := hx
  dsimp only at hn1 hn2 hs
  by_cases h1 : k = 1
  · subst h1; exact one_1 n s w hs
  by_cases h2 : k = 2
  · subst h2; exact one_2 n s w hs
  by_cases h3 : k = 3
  · subst h3; exact one_3 n s w hs
  by_cases h4 : k = 4
  · subst h4; exact one_4 n s w hs
  by_cases h5 : k = 5
  · subst h5; exact one_5 n s w hs
  by_cases h6 : k = 6
  · subst h6; exact one_6 n s w hs
  exact one_o k n s w h1 h2 h3 h4 h5 h6
end Go.Proofs.Ytdbboooblbdihaa
