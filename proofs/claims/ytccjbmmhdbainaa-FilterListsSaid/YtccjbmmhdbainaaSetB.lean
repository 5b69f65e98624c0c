/- The walk of the reference's order of texts. -/
import Derived.Test.YtccjbmmhdbainaaSetO
namespace Go.Proofs.Ytccjbmmhdbainaa
open Go.RowKit Sets
set_option maxRecDepth 100000

theorem less_drop : ∀ (k : Nat) (x y : List UInt8), x.take k = y.take k → Op.bytesLess x y = Op.bytesLess (x.drop k) (y.drop k)
  | 0, x, y, _ => by simp
  | k + 1, [], [], _ => by simp
  | k + 1, [], b :: y, h => by simp at h
  | k + 1, a :: x, [], h => by simp at h
  | k + 1, a :: x, b :: y, h => by
    simp only [List.take_succ_cons, List.cons.injEq] at h
    obtain ⟨rfl, h⟩ := h
    simp only [Op.bytesLess, List.drop_succ_cons, less_drop k x y h]
    simp

theorem byte_at (a : ByteArray) (k : Nat) (h : k < a.size) : ∃ t, a.toList.drop k = a[k] :: t ∧ a.toList.take (k + 1) = a.toList.take k ++ [a[k]] := by
  have hl : k < a.toList.length := by rw [Lib.toList_data]; simpa using h
  have he : a.toList[k] = a[k] := by simp [Lib.toList_data]; rfl
  refine ⟨a.toList.drop (k + 1), ?_, ?_⟩
  · rw [← he]; exact List.drop_eq_getElem_cons hl
  · rw [← he]; exact List.take_succ_eq_append_getElem hl
theorem len_list (a : ByteArray) : a.toList.length = a.size := by rw [Lib.toList_data]; simp
theorem byte_ne {x y : UInt8} (h : ((x.toNat : Int) != (y.toNat : Int)) = true) : x ≠ y := by
  rw [bne_iff_ne] at h
  rintro rfl
  exact h rfl
theorem byte_eq {x y : UInt8} (h : ((x.toNat : Int) != (y.toNat : Int)) = false) : x = y := by
  have h' : (x.toNat : Int) = (y.toNat : Int) := by simpa using h
  exact UInt8.toNat_inj.1 (by omega)
theorem byte_lt (x y : UInt8) : decide ((x.toNat : Int) < (y.toNat : Int)) = decide (x < y) := by
  rw [Bool.eq_iff_iff]; simp [UInt8.lt_iff_toNat_lt]
theorem byte_lt' (x y : UInt8) : decide (x.toNat < y.toNat) = decide (x < y) := by
  rw [Bool.eq_iff_iff]; simp [UInt8.lt_iff_toNat_lt]

theorem below_end {a b : ByteArray} {k : Nat} (h : a.toList.take k = b.toList.take k) (hk : k = a.size ∨ k = b.size) (h1 : k ≤ a.size) : ltB a b = decide (a.size < b.size) := by
  unfold ltB
  rw [less_drop k _ _ h]
  rcases hk with hk | hk
  · rw [List.drop_of_length_le (by rw [len_list]; omega)]
    by_cases h2 : k < b.size
    · obtain ⟨t, ht, _⟩ := byte_at b k h2
      rw [ht]
      simp [Op.bytesLess]
      omega
    · rw [List.drop_of_length_le (by rw [len_list]; omega)]
      simp [Op.bytesLess]
      omega
  · rw [List.drop_of_length_le (l := b.toList) (by rw [len_list]; omega)]
    cases a.toList.drop k <;> simp [Op.bytesLess] <;> omega

theorem below_at {a b : ByteArray} {k : Nat} (h : a.toList.take k = b.toList.take k) (h1 : k < a.size) (h2 : k < b.size) (hne : a[k] ≠ b[k]) : ltB a b = decide (a[k] < b[k]) := by
  unfold ltB
  rw [less_drop k _ _ h]
  obtain ⟨t, ht, _⟩ := byte_at a k h1
  obtain ⟨u, hu, _⟩ := byte_at b k h2
  rw [ht, hu]
  simp [Op.bytesLess, hne]

set_option maxHeartbeats 400000 in
theorem below_any (a b : ByteArray) (w : World) (ha : a.size ≤ 9223372036854775807) (hb : b.size ≤ 9223372036854775807) :
    Calls Try.prog 56 #[.string a, .string b] w fun e w' => e = .returned (.bool (ltB a b)) ∧ ∃ q, w' = w.drewN q := by
  go_enter Try.func56, Try.ntmps56
  go_wp2
  go_loopw [5] (fun i wr => ∃ k q : Nat, k ≤ a.size ∧ k ≤ b.size ∧ i = .int .i64 k ∧ wr = w.drewN q ∧ Hid (a.toList.take k = b.toList.take k)) (fun i _ => a.size - (intOf i).toNat)
  case atStart => exact ⟨0, 0, by omega, by omega, rfl, rfl, rfl⟩
  case round =>
    obtain ⟨k, q, hk, hk2, rfl, rfl, HH⟩ := hrel
    by_cases h1 : k < a.size
    · by_cases h2 : k < b.size
      · have : (0 : Int) ≤ (k : Int) := by omega
        have : (k : Int) < (a.size : Int) := by omega
        have : (k : Int) < (b.size : Int) := by omega
        go_wp2_with fail
        go_quiet (fail)
        go_wp2_with fail
        · go_quiet (fail)
          go_wp2_with fail
          go_ret
          have hne : a[k] ≠ b[k] := by
            have h : ((a[k].toNat : Int) != (b[k].toNat : Int)) = true := by assumption
            exact byte_ne h
          refine ⟨ret_bool ?_, (by simp only [World.drewN_drewN]; exact ⟨_, rfl⟩)⟩
          rw [below_at HH.out h1 h2 hne]
          first | exact byte_lt _ _ | exact byte_lt' _ _
        · go_roundw
          case rel =>
            have heq : a[k] = b[k] := by
              have h : ((a[k].toNat : Int) != (b[k].toNat : Int)) = false := by assumption
              exact byte_eq h
            refine ⟨k + 1, q + _, by omega, by omega, by go_num, rfl, ?_⟩
            obtain ⟨_, _, ht⟩ := byte_at a k h1
            obtain ⟨_, _, hu⟩ := byte_at b k h2
            unfold Hid
            rw [ht, hu, HH.out, heq]
          case measure => simp [intOf]; omega
      · have : decide (k < b.size) = false := by simp; omega
        go_wp2_with fail
        go_ret
        refine ⟨ret_bool ?_, _, rfl⟩
        exact (below_end HH.out (.inr (by omega)) (by omega)).symm
    · go_wp2
      go_ret
      refine ⟨ret_bool ?_, _, rfl⟩
      exact (below_end HH.out (.inl (by omega)) (by omega)).symm

theorem below_yes (a b : ByteArray) (h : ltB a b = true) (w : World) (ha : a.size ≤ 9223372036854775807) (hb : b.size ≤ 9223372036854775807) :
    Calls Try.prog 56 #[.string a, .string b] w fun e w' => e = .returned (.bool true) ∧ ∃ q, w' = w.drewN q := by
  rw [← h]; exact below_any a b w ha hb
theorem below_no (a b : ByteArray) (h : ltB a b = false) (w : World) (ha : a.size ≤ 9223372036854775807) (hb : b.size ≤ 9223372036854775807) :
    Calls Try.prog 56 #[.string a, .string b] w fun e w' => e = .returned (.bool false) ∧ ∃ q, w' = w.drewN q := by
  rw [← h]; exact below_any a b w ha hb

end Go.Proofs.Ytccjbmmhdbainaa
