/- The walks of the names of package policy, and of its reference. -/
import Derived.Test.YtogmnebnapghjaaByt
import Derived.Test.YtogmnebnapghjaaPol
namespace Go.Proofs.Ytogmnebnapghjaa
open Go.RowKit
set_option linter.unusedVariables false

def nBlock : ByteArray := ⟨#[66, 76, 79, 67, 75]⟩
def nFirst : ByteArray := ⟨#[70, 73, 82, 83, 84]⟩
def nLast : ByteArray := ⟨#[76, 65, 83, 84]⟩
def nMin : ByteArray := ⟨#[77, 73, 78]⟩
def nMax : ByteArray := ⟨#[77, 65, 88]⟩
def nSum : ByteArray := ⟨#[83, 85, 77]⟩
/-- The name of a policy; no text of none. -/
def nameL : Nat → ByteArray
  | 1 => nBlock | 2 => nFirst | 3 => nLast | 4 => nMin | 5 => nMax | 6 => nSum | _ => ByteArray.empty
def namesV : Value := .agg #[.string ByteArray.empty, .string nBlock, .string nFirst, .string nLast, .string nMin, .string nMax, .string nSum]

theorem names_any (w : World) : Calls Try.prog 23 #[] w fun e w' => e = .returned namesV ∧ Ext w w' := by
  go_enter Try.func23, Try.ntmps23
  go_wp2
  exact bodyPost_ret (v := namesV) (by simp [results, Try.results23, go_sem, namesV]; exact ⟨rfl, rfl, rfl, rfl, rfl, rfl, rfl⟩) rfl ⟨rfl, Ext.alloc _ _⟩

theorem ix0 (w : World) : (Instr.index 37 namesV (.int .i64 0)).run Try.prog w = .ok (.string (nameL 0)) w := by kernel_rfl
theorem ix1 (w : World) : (Instr.index 37 namesV (.int .i64 1)).run Try.prog w = .ok (.string (nameL 1)) w := by kernel_rfl
theorem ix2 (w : World) : (Instr.index 37 namesV (.int .i64 2)).run Try.prog w = .ok (.string (nameL 2)) w := by kernel_rfl
theorem ix3 (w : World) : (Instr.index 37 namesV (.int .i64 3)).run Try.prog w = .ok (.string (nameL 3)) w := by kernel_rfl
theorem ix4 (w : World) : (Instr.index 37 namesV (.int .i64 4)).run Try.prog w = .ok (.string (nameL 4)) w := by kernel_rfl
theorem ix5 (w : World) : (Instr.index 37 namesV (.int .i64 5)).run Try.prog w = .ok (.string (nameL 5)) w := by kernel_rfl
theorem ix6 (w : World) : (Instr.index 37 namesV (.int .i64 6)).run Try.prog w = .ok (.string (nameL 6)) w := by kernel_rfl
theorem index_names (k : Nat) (hk : k < 7) (w : World) : (Instr.index 37 namesV (.int .i64 (k : Int))).run Try.prog w = .ok (.string (nameL k)) w := by
  rcases (by omega : k = 0 ∨ k = 1 ∨ k = 2 ∨ k = 3 ∨ k = 4 ∨ k = 5 ∨ k = 6) with rfl | rfl | rfl | rfl | rfl | rfl | rfl
  · exact ix0 w
  · exact ix1 w
  · exact ix2 w
  · exact ix3 w
  · exact ix4 w
  · exact ix5 w
  · exact ix6 w

theorem pName_yes (k : Nat) (h1 : 1 ≤ k) (h2 : k ≤ 6) (w : World) : Calls Try.prog 15 #[.int .i64 (k : Int)] w fun e w' => e = .returned (.string (nameL k)) ∧ Ext w w' := by
  have hix := index_names k (by omega)
  go_enter Try.func15, Try.ntmps15
  go_wp2_with fail
  refine (right_yes _ _ (by omega) (by omega)).mono ?_
  rintro e w1 ⟨rfl, rfl⟩
  go_wp2_with fail
  refine (names_any _).mono ?_
  rintro e w1 ⟨rfl, he⟩
  go_wp2
  go_ret
  exact ⟨rfl, he⟩
theorem pName_no (p : Int) (h : p < 1 ∨ 6 < p) (w : World) : Calls Try.prog 15 #[.int .i64 p] w fun e w' => e = .returned (.string ByteArray.empty) ∧ Ext w w' := by
  go_enter Try.func15, Try.ntmps15
  go_wp2_with fail
  refine (right_no _ _ h).mono ?_
  rintro e w1 ⟨rfl, rfl⟩
  go_wp2
  go_ret
  exact ⟨rfl, Ext.refl _⟩

/-- A byte whose letter is great. -/
def upB (c : UInt8) : UInt8 := if 97 ≤ c.toNat ∧ c.toNat ≤ 122 then c - 32 else c
def upS (s : ByteArray) : ByteArray := ⟨(s.toList.map upB).toArray⟩
theorem upS_list (s : ByteArray) : (upS s).toList = s.toList.map upB := toList_mk _
theorem upB_yes {c : UInt8} (h1 : 97 ≤ c.toNat) (h2 : c.toNat ≤ 122) : ((upB c).toNat : Int) = (c.toNat : Int) - 32 := by
  rw [upB, if_pos ⟨h1, h2⟩, UInt8.toNat_sub_of_le]
  · have : (32 : UInt8).toNat = 32 := rfl
    omega
  · rw [UInt8.le_iff_toNat_le]
    have : (32 : UInt8).toNat = 32 := rfl
    omega
theorem upB_no {c : UInt8} (h : ¬ (97 ≤ c.toNat ∧ c.toNat ≤ 122)) : upB c = c := by rw [upB, if_neg h]

def alikeTo (s n : ByteArray) (k : Nat) : Prop := (s.toList.map upB).take k = n.toList.take k

theorem alike_step {s n : ByteArray} {k : Nat} (hs : k < s.size) (hn : k < n.size) (h : alikeTo s n k) (he : upB s[k] = n[k]) : alikeTo s n (k + 1) := by
  obtain ⟨_, _, h1⟩ := byt_at s k hs
  obtain ⟨_, _, h2⟩ := byt_at n k hn
  unfold alikeTo at *
  rw [← List.map_take] at *
  rw [h1, h2, ← h, ← he]
  simp
theorem alike_not {s n : ByteArray} {k : Nat} (hs : k < s.size) (hn : k < n.size) (hne : upB s[k] ≠ n[k]) : upS s ≠ n := by
  intro h
  apply hne
  obtain ⟨t, h1, _⟩ := byt_at s k hs
  obtain ⟨u, h2, _⟩ := byt_at n k hn
  have h3 : n.toList = s.toList.map upB := by rw [← h, upS_list]
  rw [h3, ← List.map_drop, h1] at h2
  simp only [List.map_cons, List.cons.injEq] at h2
  exact h2.1
theorem alike_all {s n : ByteArray} (hl : s.size = n.size) (h : alikeTo s n s.size) : upS s = n := by
  refine bytes_ext ?_
  rw [upS_list]
  unfold alikeTo at h
  rwa [List.take_of_length_le (by simp [size_list]), List.take_of_length_le (by rw [size_list]; omega)] at h
theorem size_upS (s : ByteArray) : (upS s).size = s.size := by rw [← size_list, upS_list, List.length_map, size_list]

set_option maxHeartbeats 400000 in
theorem alike_any (s n : ByteArray) (w : World) (hs : s.size ≤ 9223372036854775807) (hn : n.size ≤ 9223372036854775807) :
    Calls Try.prog 24 #[.string s, .string n] w fun e w' => e = .returned (.bool (decide (upS s = n))) ∧ w = w' := by
  by_cases hl : s.size = n.size
  · have hl' : ((s.size : Int) != (n.size : Int)) = false := by rw [hl]; simp
    have HL := Lib.hid hl
    clear hl
    go_enter Try.func24, Try.ntmps24
    go_wp2
    go_loop [14] (fun i => ∃ k : Nat, k ≤ s.size ∧ i = .int .i64 k ∧ Hid (alikeTo s n k)) (fun i => s.size - (intOf i).toNat)
    case atStart => exact ⟨0, by omega, rfl, rfl⟩
    case round =>
      obtain ⟨k, hk, rfl, HH⟩ := hrel
      by_cases h1 : k < s.size
      · have h2 : k < n.size := by rw [← HL.out]; exact h1
        have hb1 := s[k].toNat_lt
        have hb2 := n[k].toNat_lt
        by_cases hc : 97 ≤ s[k].toNat ∧ s[k].toNat ≤ 122
        · obtain ⟨c1, c2⟩ := hc
          have HU := Lib.hid (upB_yes c1 c2)
          by_cases he : upB s[k] = n[k]
          · have hq : ((s[k].toNat : Int) - 32 != (n[k].toNat : Int)) = false := by rw [← HU.out, he]; simp
            have HE := Lib.hid he
            clear he
            go_wp2
            go_round
            case rel => exact ⟨k + 1, by omega, by go_num, alike_step h1 h2 HH.out HE.out⟩
            case measure => simp [intOf]; omega
          · have hq : ((s[k].toNat : Int) - 32 != (n[k].toNat : Int)) = true := by
              rw [← HU.out, bne_iff_ne]
              exact fun h => he (eq_bytes h)
            have HE := Lib.hid he
            clear he
            go_wp2
            go_ret
            refine ⟨ret_bool ?_, rfl⟩
            rw [decide_eq_false (alike_not h1 h2 HE.out)]
        · have hup := upB_no hc
          have hor : (s[k].toNat < 97) ∨ (97 ≤ s[k].toNat ∧ 122 < s[k].toNat) := by omega
          clear hc
          rcases hor with hor | ⟨hor, hor'⟩
          all_goals
            by_cases he : upB s[k] = n[k]
            · have hq : ((s[k].toNat : Int) != (n[k].toNat : Int)) = false := by rw [← he, hup]; simp
              have HE := Lib.hid he
              clear he hup
              go_wp2
              go_round
              case rel => exact ⟨k + 1, by omega, by go_num, alike_step h1 h2 HH.out HE.out⟩
              case measure => simp [intOf]; omega
            · have hq : ((s[k].toNat : Int) != (n[k].toNat : Int)) = true := by
                rw [bne_iff_ne]
                exact fun h => he (by rw [hup]; exact eq_bytes h)
              have HE := Lib.hid he
              clear he hup
              go_wp2
              go_ret
              refine ⟨ret_bool ?_, rfl⟩
              rw [decide_eq_false (alike_not h1 h2 HE.out)]
      · obtain rfl : k = s.size := by omega
        go_wp2
        go_ret
        refine ⟨ret_bool ?_, rfl⟩
        rw [decide_eq_true (alike_all HL.out HH.out)]
  · have hl' : ((s.size : Int) != (n.size : Int)) = true := by rw [bne_iff_ne]; omega
    have HL := Lib.hid hl
    clear hl
    go_enter Try.func24, Try.ntmps24
    go_wp2
    go_ret
    refine ⟨ret_bool ?_, rfl⟩
    rw [decide_eq_false]
    intro h
    exact HL.out (by rw [← h, size_upS])

theorem alike_yes (s n : ByteArray) (h : upS s = n) (w : World) (hs : s.size ≤ 9223372036854775807) (hn : n.size ≤ 9223372036854775807) :
    Calls Try.prog 24 #[.string s, .string n] w fun e w' => e = .returned (.bool true) ∧ w = w' := by
  have := alike_any s n w hs hn
  rwa [decide_eq_true h] at this
theorem alike_no (s n : ByteArray) (h : upS s ≠ n) (w : World) (hs : s.size ≤ 9223372036854775807) (hn : n.size ≤ 9223372036854775807) :
    Calls Try.prog 24 #[.string s, .string n] w fun e w' => e = .returned (.bool false) ∧ w = w' := by
  have := alike_any s n w hs hn
  rwa [decide_eq_false h] at this

theorem nameL_size (k : Nat) : (nameL k).size ≤ 9223372036854775807 := by
  unfold nameL; split <;> decide

set_option maxHeartbeats 400000 in
theorem pParse_no (s : ByteArray) (hne : ∀ j, 1 ≤ j → j ≤ 6 → upS s ≠ nameL j) (w : World) (hs : s.size ≤ 9223372036854775807) :
    Calls Try.prog 11 #[.string s] w fun e w' => e = .returned (.tuple #[.int .i64 0, .int .i64 17]) ∧ Ext w w' := by
  have HNE := Lib.hid hne
  clear hne
  go_enter Try.func11, Try.ntmps11
  go_wp2_with fail
  refine (names_any _).mono ?_
  rintro e w1 ⟨rfl, he⟩
  go_wp2_with fail
  go_loop [7] (fun i => ∃ k : Nat, k ≤ 7 ∧ i = .int .i64 k) (fun i => 7 - (intOf i).toNat)
  case atStart => exact ⟨0, by omega, rfl⟩
  case round =>
    obtain ⟨k, hk, rfl⟩ := hrel
    by_cases h1 : k < 7
    · have hix := index_names k h1
      by_cases h0 : k = 0
      · subst h0
        have hix := ix0
        go_wp2_with (first
          | (go_at_call 13; refine (right_no _ _ (by omega)).mono ?_; rintro e w1 ⟨rfl, rfl⟩))
        go_round
        case rel => exact ⟨1, by omega, by go_num⟩
        case measure => simp [intOf]
      · have h0' : 1 ≤ k := by omega
        clear h0
        go_wp2_with (first
          | (go_at_call 13; refine (right_yes _ _ (by omega) (by omega)).mono ?_; rintro e w1 ⟨rfl, rfl⟩)
          | (go_at_call 24; refine (alike_no s (nameL k) (HNE.out k h0' (by omega)) _ hs (nameL_size k)).mono ?_; rintro e w1 ⟨rfl, rfl⟩))
        go_round
        case rel => exact ⟨k + 1, by omega, by go_num⟩
        case measure => simp [intOf]; omega
    · go_wp2
      go_ret2
      exact ⟨rfl, he⟩

set_option maxHeartbeats 400000 in
theorem pParse_yes (s : ByteArray) (K : Nat) (hK1 : 1 ≤ K) (hK6 : K ≤ 6) (hK : upS s = nameL K) (hne : ∀ j, 1 ≤ j → j < K → upS s ≠ nameL j) (w : World) (hs : s.size ≤ 9223372036854775807) :
    Calls Try.prog 11 #[.string s] w fun e w' => e = .returned (.tuple #[.int .i64 K, .int .i64 0]) ∧ Ext w w' := by
  have HNE := Lib.hid hne
  have HK := Lib.hid hK
  clear hne hK
  go_enter Try.func11, Try.ntmps11
  go_wp2_with fail
  refine (names_any _).mono ?_
  rintro e w1 ⟨rfl, he⟩
  go_wp2_with fail
  go_loop [7] (fun i => ∃ k : Nat, k ≤ K ∧ i = .int .i64 k) (fun i => 7 - (intOf i).toNat)
  case atStart => exact ⟨0, by omega, rfl⟩
  case round =>
    obtain ⟨k, hk, rfl⟩ := hrel
    have h1 : k < 7 := by omega
    have hix := index_names k h1
    by_cases h0 : k = 0
    · subst h0
      have hix := ix0
      go_wp2_with (first
        | (go_at_call 13; refine (right_no _ _ (by omega)).mono ?_; rintro e w1 ⟨rfl, rfl⟩))
      go_round
      case rel => exact ⟨1, by omega, by go_num⟩
      case measure => simp [intOf]
    · have h0' : 1 ≤ k := by omega
      clear h0
      by_cases h2 : k < K
      · go_wp2_with (first
          | (go_at_call 13; refine (right_yes _ _ (by omega) (by omega)).mono ?_; rintro e w1 ⟨rfl, rfl⟩)
          | (go_at_call 24; refine (alike_no s (nameL k) (HNE.out k h0' h2) _ hs (nameL_size k)).mono ?_; rintro e w1 ⟨rfl, rfl⟩))
        go_round
        case rel => exact ⟨k + 1, by omega, by go_num⟩
        case measure => simp [intOf]; omega
      · obtain rfl : k = K := by omega
        go_wp2_with (first
          | (go_at_call 13; refine (right_yes _ _ (by omega) (by omega)).mono ?_; rintro e w1 ⟨rfl, rfl⟩)
          | (go_at_call 24; refine (alike_yes s (nameL k) HK.out _ hs (nameL_size k)).mono ?_; rintro e w1 ⟨rfl, rfl⟩))
        go_ret2
        exact ⟨rfl, he⟩

/-! ### The reference -/
theorem rName_no (p : Int) (h : p < 1 ∨ 6 < p) (w : World) : Calls Try.prog 14 #[.int .i64 p] w fun e w' => e = .returned (.string ByteArray.empty) ∧ Ext w w' := by
  rcases h with h | h
  all_goals
    go_enter Try.func14, Try.ntmps14
    go_wp2
    go_ret
    exact ⟨rfl, Ext.refl _⟩
set_option maxHeartbeats 400000 in
theorem rName_yes (k : Nat) (h1 : 1 ≤ k) (h2 : k ≤ 6) (w : World) : Calls Try.prog 14 #[.int .i64 (k : Int)] w fun e w' => e = .returned (.string (nameL k)) ∧ Ext w w' := by
  rcases (by omega : k = 1 ∨ k = 2 ∨ k = 3 ∨ k = 4 ∨ k = 5 ∨ k = 6) with rfl | rfl | rfl | rfl | rfl | rfl
  all_goals
    go_enter Try.func14, Try.ntmps14
    go_wp2
    go_ret
    exact ⟨rfl, Ext.alloc _ _⟩

set_option maxHeartbeats 400000 in
theorem rUpper_any (s : ByteArray) (w : World) (hs : s.size ≤ 4294967296) : Calls Try.prog 22 #[.string s] w fun e w' => e = .returned (.string (upS s)) ∧ Ext w w' := by
  go_enter Try.func22, Try.ntmps22
  go_wp2
  go_loopw [3, 4] (fun o i wr => ∃ k : Nat, k ≤ s.size ∧ i = .int .i64 k ∧ OwnB w wr o ((s.toList.map upB).take k) ∧ Ext w wr) (fun _ i _ => s.size - (intOf i).toNat)
  case atStart => exact ⟨0, by omega, rfl, OwnB.nil _ _, Ext.refl _⟩
  case round =>
    obtain ⟨k, hk, rfl, hown, hext⟩ := hrel
    have hlk : ((s.toList.map upB).take k).length = k := by rw [List.length_take, List.length_map, size_list]; omega
    have HLK := Lib.hid hlk
    clear hlk
    by_cases h1 : k < s.size
    · have hb1 := s[k].toNat_lt
      have hst : (s.toList.map upB).take (k + 1) = (s.toList.map upB).take k ++ [upB s[k]] := by
        obtain ⟨_, _, h⟩ := byt_at s k h1
        rw [← List.map_take, h, List.map_append, List.map_take]
        rfl
      have HST := Lib.hid hst
      clear hst
      by_cases hc : 97 ≤ s[k].toNat ∧ s[k].toNat ≤ 122
      · obtain ⟨c1, c2⟩ := hc
        have hu := upB_yes c1 c2
        have hcell : Value.int .u8 ((s[k].toNat : Int) - 97 + 65) = byteV (upB s[k]) := by
          rw [byteV, hu]; congr 1; omega
        have HC := Lib.hid hcell
        clear hu hcell
        go_wp2_with (first
          | (at_builtin
             refine app_bytes _ rfl (.tmp 24) (.tmp 26) rfl w _ ((s.toList.map upB).take k) rfl (by exact OwnB.alloc hown _) (some ⟨wr.heap.size, 0, none⟩) 1 1 [upB s[k]] rfl rfl (by rw [List.map_singleton, ← HC.out]; exact Rd.new wr #[_] 5) (by rw [HLK.out]; simp; omega) (by exact Ext.alloc_ hext _) ?_
             intro v1 w1 hown1 hext1
             clear hown hext))
        go_roundw
        case rel => exact ⟨k + 1, by omega, by go_num, by rw [HST.out]; exact hown1, hext1⟩
        case measure => simp [intOf]; omega
      · have hup := upB_no hc
        have hor : (s[k].toNat < 97) ∨ (97 ≤ s[k].toNat ∧ 122 < s[k].toNat) := by omega
        clear hc
        have hcell : Value.int .u8 (s[k].toNat : Int) = byteV (upB s[k]) := by rw [byteV, hup]
        have HC := Lib.hid hcell
        clear hup hcell
        rcases hor with hor | ⟨hor, hor'⟩
        all_goals
          go_wp2_with (first
            | (at_builtin
               refine app_bytes _ rfl (.tmp 24) (.tmp 26) rfl w _ ((s.toList.map upB).take k) rfl (by exact OwnB.alloc hown _) (some ⟨wr.heap.size, 0, none⟩) 1 1 [upB s[k]] rfl rfl (by rw [List.map_singleton, ← HC.out]; exact Rd.new wr #[_] 5) (by rw [HLK.out]; simp; omega) (by exact Ext.alloc_ hext _) ?_
               intro v1 w1 hown1 hext1
               clear hown hext))
          go_roundw
          case rel => exact ⟨k + 1, by omega, by go_num, by rw [HST.out]; exact hown1, hext1⟩
          case measure => simp [intOf]; omega
    · obtain rfl : k = s.size := by omega
      obtain ⟨A, n, c, rfl, hn, _, _, hr⟩ := hown.byt
      have hback := back (c := c) hn hr
      rw [List.take_of_length_le (by rw [List.length_map, size_list]; omega)] at hback
      go_wp2
      go_ret
      exact ⟨rfl, hext⟩

set_option maxHeartbeats 400000 in
theorem rParse_no (s : ByteArray) (hne : ∀ j, 1 ≤ j → j ≤ 6 → upS s ≠ nameL j) (w : World) (hs : s.size ≤ 4294967296) :
    Calls Try.prog 12 #[.string s] w fun e w' => e = .returned (.tuple #[.int .i64 0, .int .i64 17]) ∧ Ext w w' := by
  have HNE := Lib.hid hne
  clear hne
  go_enter Try.func12, Try.ntmps12
  go_wp2
  go_loopw [4] (fun i wr => ∃ k : Nat, 1 ≤ k ∧ k ≤ 7 ∧ i = .int .i64 k ∧ Ext w wr) (fun i _ => 7 - (intOf i).toNat)
  case atStart => exact ⟨1, by omega, by omega, rfl, Ext.refl _⟩
  case round =>
    obtain ⟨k, hk1, hk, rfl, hext⟩ := hrel
    by_cases h1 : k ≤ 6
    · have hnb : ((nameL k).toList == (upS s).toList) = false := by
        rw [beq_eq_false_iff_ne]
        exact fun h => HNE.out k hk1 h1 (bytes_ext h).symm
      go_wp2_with (first
        | (go_at_call 14; refine (rName_yes k hk1 h1 _).mono ?_; rintro e w1 ⟨rfl, e1⟩)
        | (go_at_call 22; refine (rUpper_any s _ hs).mono ?_; rintro e w2 ⟨rfl, e2⟩))
      go_roundw
      case rel => exact ⟨k + 1, by omega, by omega, by go_num, (hext.trans e1).trans e2⟩
      case measure => simp [intOf]; omega
    · go_wp2
      go_ret2
      exact ⟨rfl, hext⟩

set_option maxHeartbeats 400000 in
theorem rParse_yes (s : ByteArray) (K : Nat) (hK1 : 1 ≤ K) (hK6 : K ≤ 6) (hK : upS s = nameL K) (hne : ∀ j, 1 ≤ j → j < K → upS s ≠ nameL j) (w : World) (hs : s.size ≤ 4294967296) :
    Calls Try.prog 12 #[.string s] w fun e w' => e = .returned (.tuple #[.int .i64 K, .int .i64 0]) ∧ Ext w w' := by
  have HNE := Lib.hid hne
  have HK := Lib.hid hK
  clear hne hK
  go_enter Try.func12, Try.ntmps12
  go_wp2
  go_loopw [4] (fun i wr => ∃ k : Nat, 1 ≤ k ∧ k ≤ K ∧ i = .int .i64 k ∧ Ext w wr) (fun i _ => 7 - (intOf i).toNat)
  case atStart => exact ⟨1, by omega, by omega, rfl, Ext.refl _⟩
  case round =>
    obtain ⟨k, hk1, hk, rfl, hext⟩ := hrel
    have h1 : k ≤ 6 := by omega
    by_cases h2 : k < K
    · have hnb : ((nameL k).toList == (upS s).toList) = false := by
        rw [beq_eq_false_iff_ne]
        exact fun h => HNE.out k hk1 h2 (bytes_ext h).symm
      go_wp2_with (first
        | (go_at_call 14; refine (rName_yes k hk1 h1 _).mono ?_; rintro e w1 ⟨rfl, e1⟩)
        | (go_at_call 22; refine (rUpper_any s _ hs).mono ?_; rintro e w2 ⟨rfl, e2⟩))
      go_roundw
      case rel => exact ⟨k + 1, by omega, by omega, by go_num, (hext.trans e1).trans e2⟩
      case measure => simp [intOf]; omega
    · obtain rfl : k = K := by omega
      have hnb : ((nameL k).toList == (upS s).toList) = true := by rw [HK.out]; simp
      go_wp2_with (first
        | (go_at_call 14; refine (rName_yes k hk1 h1 _).mono ?_; rintro e w1 ⟨rfl, e1⟩)
        | (go_at_call 22; refine (rUpper_any s _ hs).mono ?_; rintro e w2 ⟨rfl, e2⟩))
      go_ret2
      exact ⟨rfl, (hext.trans e1).trans e2⟩

/-- The first policy whose name a text is; 0: none. -/
def parseN (s : ByteArray) : Nat := if upS s = nBlock then 1 else if upS s = nFirst then 2 else if upS s = nLast then 3 else if upS s = nMin then 4 else if upS s = nMax then 5 else if upS s = nSum then 6 else 0
theorem parseN_le (s : ByteArray) : parseN s ≤ 6 := by
  unfold parseN
  repeat' split
  all_goals omega
theorem parseN_yes {s : ByteArray} {K : Nat} (h : parseN s = K) (h1 : 1 ≤ K) : upS s = nameL K ∧ ∀ j, 1 ≤ j → j < K → upS s ≠ nameL j := by
  unfold parseN at h
  repeat' split at h
  all_goals
    subst h
    first
      | omega
      | (refine ⟨by assumption, fun j hj1 hj2 => ?_⟩
         rcases (by omega : j = 1 ∨ j = 2 ∨ j = 3 ∨ j = 4 ∨ j = 5) with rfl | rfl | rfl | rfl | rfl <;> first | assumption | omega)
theorem parseN_no {s : ByteArray} (h : parseN s = 0) : ∀ j, 1 ≤ j → j ≤ 6 → upS s ≠ nameL j := by
  unfold parseN at h
  repeat' split at h
  all_goals
    first
      | omega
      | (intro j hj1 hj2
         rcases (by omega : j = 1 ∨ j = 2 ∨ j = 3 ∨ j = 4 ∨ j = 5 ∨ j = 6) with rfl | rfl | rfl | rfl | rfl | rfl <;> assumption)
def parseE (k : Nat) : Int := if k = 0 then 17 else 0
theorem pParse_any (s : ByteArray) (w : World) (hs : s.size ≤ 9223372036854775807) (k : Nat) (hk : parseN s = k) :
    Calls Try.prog 11 #[.string s] w fun e w' => e = .returned (.tuple #[.int .i64 k, .int .i64 (parseE k)]) ∧ Ext w w' := by
  by_cases h0 : k = 0
  · subst h0
    exact pParse_no s (parseN_no hk) w hs
  · have h6 := parseN_le s
    have hy := parseN_yes hk (by omega)
    have := pParse_yes s k (by omega) (by omega) hy.1 hy.2 w hs
    rwa [parseE, if_neg h0]
theorem rParse_any (s : ByteArray) (w : World) (hs : s.size ≤ 4294967296) (k : Nat) (hk : parseN s = k) :
    Calls Try.prog 12 #[.string s] w fun e w' => e = .returned (.tuple #[.int .i64 k, .int .i64 (parseE k)]) ∧ Ext w w' := by
  by_cases h0 : k = 0
  · subst h0
    exact rParse_no s (parseN_no hk) w hs
  · have h6 := parseN_le s
    have hy := parseN_yes hk (by omega)
    have := rParse_yes s k (by omega) (by omega) hy.1 hy.2 w hs
    rwa [parseE, if_neg h0]

end Go.Proofs.Ytogmnebnapghjaa
