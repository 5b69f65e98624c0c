/- The statement DeltaFew, walked. -/
import Derived.Test.YtpdebandcmhbcaaDelU
namespace Go.Proofs.Ytpdebandcmhbcaa
open Go.RowKit Bit
set_option linter.unusedVariables false

def fewAt (t s v : Int) (i : Nat) : Smp := (wrap64 (t + wrap64 ((i : Int) * s)), v)
def fewL (t s v : Int) (k : Nat) : List Smp := (List.range k).map (fewAt t s v)
def fewT (t s v : Int) (m : Nat) : List Smp := (List.range m).map fun i => fewAt t s v (i + 1)
theorem few_cons (t s v : Int) (m : Nat) : fewL t s v (m + 1) = fewAt t s v 0 :: fewT t s v m := by
  simp only [fewL, fewT, List.range_succ_eq_map, List.map_cons, List.map_map]
  rfl
theorem few_snoc (t s v : Int) (k : Nat) : fewL t s v k ++ [fewAt t s v k] = fewL t s v (k + 1) := by
  simp [fewL, List.range_succ]
theorem fewT_snoc (t s v : Int) (m : Nat) : fewT t s v (m + 1) = fewT t s v m ++ [fewAt t s v (m + 1)] := by
  simp [fewT, List.range_succ]
theorem few_diff (t s v : Int) (m : Nat) : wrap64 ((fewAt t s v (m + 1)).1 - (fewAt t s v m).1) = wrap64 s := by
  have e : ((m + 1 : Nat) : Int) * s = (m : Int) * s + s := by rw [Int.natCast_add, Int.add_mul]; simp
  simp only [fewAt, e]
  generalize (m : Int) * s = a
  unfold wrap64
  omega
theorem few_fin (t s v : Int) : ∀ m : Nat, finS (fewAt t s v 0) 0 (fewT t s v m) = (fewAt t s v m, if m = 0 then 0 else wrap64 s)
  | 0 => rfl
  | m + 1 => by rw [fewT_snoc, finS_snoc, few_fin t s v m, few_diff]; simp
theorem size_zero : sizeN (zigN (wrap64 0)) = 1 := by decide +kernel
theorem few_len (t s v : Int) (hs : -9223372036854775808 ≤ s ∧ s ≤ 9223372036854775807) : ∀ m : Nat, (encB (fewAt t s v 0 :: fewT t s v m)).length = 128 + if m = 0 then 0 else sizeN (zigN s) + 1 + 2 * (m - 1)
  | 0 => by simp [fewT, encB, encGo, firstB, length_bitsOf]
  | m + 1 => by
    have ih := few_len t s v hs m
    have hw : wrap64 s = s := by unfold wrap64; omega
    rw [fewT_snoc, encB_snoc, few_fin, few_diff, List.length_append, ih, List.length_append, codeB_len, codeB_len]
    have h0 : wrap64 ((fewAt t s v (m + 1)).2 - (fewAt t s v m).2) = wrap64 0 := by simp [fewAt]
    rw [show wrap64 ((fewAt t s v (m + 1)).2 - (fewAt t s v m, if m = 0 then (0 : Int) else wrap64 s).1.2) = wrap64 0 from h0, size_zero]
    by_cases hm : m = 0
    · subst hm
      simp only [if_true, hw]
      simp [hw]
    · simp only [if_neg hm, Int.sub_self, size_zero]
      simp
      omega
def wantN (s : Int) (k : Nat) : Nat := if 1 < k then 128 + sizeN (zigN s) + 1 + 2 * (k - 2) else if 0 < k then 128 else 0
theorem few_want (t s v : Int) (hs : -9223372036854775808 ≤ s ∧ s ≤ 9223372036854775807) (k : Nat) : (encB (fewL t s v k)).length = wantN s k := by
  cases k with
  | zero => rfl
  | succ m =>
    rw [few_cons, few_len _ _ _ hs]
    unfold wantN
    by_cases hm : m = 0
    · subst hm; rfl
    · rw [if_neg hm, if_pos (by omega)]
      omega
theorem few_ok (t s v : Int) (hv : -9223372036854775808 ≤ v ∧ v ≤ 9223372036854775807) (k : Nat) : ∀ x ∈ fewL t s v k, SmpOk x := by
  intro x hx
  obtain ⟨i, _, rfl⟩ := List.mem_map.1 hx
  exact ⟨wrap64_lo _, wrap64_hi _, hv.1, hv.2⟩
theorem size_half (n : Nat) : sizeN (n / 2) ≤ sizeN n := by
  have hs : ∀ k, k ≤ 4 → headN k + widthN k = if k = 0 then 1 else if k = 1 then 9 else if k = 2 then 15 else if k = 3 then 28 else 68 := by decide
  have h1 := hs _ (class_le n)
  have h2 := hs _ (class_le (n / 2))
  unfold sizeN
  rw [h1, h2]
  rcases class_cases n with h | h | h | h | h <;> rcases class_cases (n / 2) with g | g | g | g | g <;> obtain ⟨h, _⟩ := h <;> obtain ⟨g, _⟩ := g <;> rw [h, g] <;> first | decide | (exfalso; omega)
set_option maxRecDepth 100000 in
set_option maxHeartbeats 4000000 in
theorem deltaFew_any (t s v : Int) (m : Nat) (w : World) (ht : -9223372036854775808 ≤ t ∧ t ≤ 9223372036854775807) (hs : -9223372036854775808 ≤ s ∧ s ≤ 9223372036854775807) (hv : -9223372036854775808 ≤ v ∧ v ≤ 9223372036854775807) (hm : m < 256) :
    Calls Try.prog 6 #[.agg #[.int .i64 t, .int .i64 s, .int .i64 v], .int .u8 (m : Int)] w fun e w' => e = .returned (.bool true) ∧ Ext w w' := by
  obtain ⟨i1, hi1, hz3, hz4, hz5⟩ := info_parts Try.smpInfo
  have hrem : Int.tmod (m : Int) 100 = ((m % 100 : Nat) : Int) := by rw [Int.tmod_eq_emod_of_nonneg (by omega)]; omega
  have hK : m % 100 < 100 := Nat.mod_lt _ (by decide)
  generalize m % 100 = K at hrem hK
  have HS := Lib.hid hs
  have HT := Lib.hid ht
  have HV := Lib.hid hv
  clear hs ht hv
  go_enter Try.func6, Try.ntmps6
  go_wp2_with fail
  have hb := heap_alloc_new w (.cells #[.int .i64 t, .int .i64 s, .int .i64 v] 57 (0, 0))
  have hx1 := Ext.alloc w (.cells #[.int .i64 t, .int .i64 s, .int .i64 v] 57)
  generalize w.alloc (.cells #[.int .i64 t, .int .i64 s, .int .i64 v] 57) = w1 at hb hx1 ⊢
  have HX1 := Lib.hid hx1
  clear hx1 hb
  go_loopw [8, 9] (fun o i wr => ∃ k : Nat, k ≤ K ∧ i = .int .i64 (k : Int) ∧ wr.ownsRow w.heap.size 59 2 o (fewL t s v k).length ((fewL t s v k).flatMap smpC) ∧ Ext w wr) (fun _ i _ => K - (intOf i).toNat)
  case atStart => exact ⟨0, by omega, rfl, World.ownsRow_nil _ _ _ _, HX1.out⟩
  case round =>
    obtain ⟨k, hk, rfl, hown, hext⟩ := hrel
    have HO := Lib.hid hown
    have HE := Lib.hid hext
    clear hown hext
    by_cases hkn : k < K
    · have hkI : (k : Int) < (K : Int) := by omega
      have e1 : IntKind.i64.wrap ((k : Int) * s) = wrap64 ((k : Int) * s) := IntWalk.i64_left _
      have e2 : IntKind.i64.wrap (t + wrap64 ((k : Int) * s)) = wrap64 (t + wrap64 ((k : Int) * s)) := IntWalk.i64_left _
      have hx6 : Ext wr (wr.alloc (.cells #[.int .i64 (wrap64 (t + wrap64 ((k : Int) * s))), .int .i64 v] 59)) := Ext.alloc _ _
      go_wp2_with (first
        | (at_builtin
           refine app_row smpC_len smpC_one _ rfl (.tmp 26) (.tmp 34) 23 59 rfl i1 (.agg #[.int .i64 0, .int .i64 0]) 16 Try.underlying23 hi1 hz3 hz4 hz5 rfl (by decide) (by decide) w.heap.size _ (fewL t s v k) rfl (by exact own_later HO.out hx6) (Nat.le_trans HE.out.size hx6.size) (some ⟨wr.heap.size, 0, none⟩) 1 1 [fewAt t s v k] rfl rfl (by exact Rd.new wr #[_, _] 59) (by simp only [List.length_singleton, fewL, List.length_map, List.length_range]; omega) ?_
           intro v7 w7 hown7 hchg7
           have hext7 := ((Chg.of_ext (HE.out.trans hx6)).trans hchg7).to_ext (Nat.le_refl _)
           clear hchg7))
      go_roundw
      case rel => exact ⟨k + 1, by omega, by go_num, by rw [← few_snoc]; exact hown7, hext7⟩
      case measure => simp [intOf]; omega
    · obtain rfl : k = K := by omega
      have hrow := own_row HO.out
      have hwant := few_want t s v HS.out k
      have hok := few_ok t s v HV.out k
      have hll : (fewL t s v k).length = k := by simp [fewL]
      obtain ⟨A, n, c, rfl, hn, hnc, hc, hr⟩ := hrow
      obtain rfl : n = k := by omega
      have HR := Lib.hid (⟨A, n, c, rfl, hn, hnc, hc, hr⟩ : Row smpC wr (.slice A n c) (fewL t s v n))
      clear hn hr hc
      have HW := Lib.hid hwant
      have HOK := Lib.hid hok
      have HLL := Lib.hid hll
      clear hwant hok hll
      have hU := u64N_lt s
      have hu := u64N_wrap s
      have hq : Int.tdiv ((u64N s : Nat) : Int) 2 = ((u64N s / 2 : Nat) : Int) := by rw [Int.tdiv_eq_ediv_of_nonneg (by omega)]; omega
      have hqw : IntKind.u64.wrap ((u64N s / 2 : Nat) : Int) = ((u64N s / 2 : Nat) : Int) := by
        simp only [IntKind.wrap, IntKind.bits, IntKind.signed]
        simp
        omega
      have hQ : u64N s / 2 < 18446744073709551616 := by omega
      have s1 := size_le (u64N s)
      have s2 := size_half (u64N s)
      have s3 := size_pos (u64N s / 2)
      generalize u64N s / 2 = Q at hq hqw hQ s2 s3
      generalize u64N s = U at hU hu hq s1 s2
      have HUU := Lib.hid (⟨hU, hQ⟩ : U < 18446744073709551616 ∧ Q < 18446744073709551616)
      clear hU hQ
      by_cases h2 : 1 < n
      · have hI2 : (1 : Int) < (n : Int) := by omega
        have hI1 : (0 : Int) < (n : Int) := by omega
        have hwn : ((wantN s n : Nat) : Int) = 128 + (sizeN (zigN s) : Int) + 1 + 2 * ((n : Int) - 2) := by
          unfold wantN
          rw [if_pos h2]
          omega
        have hzl := zig_lt s HS.out.1 HS.out.2
        have HZL := Lib.hid hzl
        have s4 := size_le (zigN s)
        have g1 : IntKind.i64.wrap (128 + (sizeN (zigN s) : Int)) = 128 + (sizeN (zigN s) : Int) := by rw [IntWalk.i64_left]; unfold wrap64; omega
        have g2 : IntKind.i64.wrap (128 + (sizeN (zigN s) : Int) + 1) = 128 + (sizeN (zigN s) : Int) + 1 := by rw [IntWalk.i64_left]; unfold wrap64; omega
        have g3 : IntKind.i64.wrap ((n : Int) - 2) = (n : Int) - 2 := by rw [IntWalk.i64_left]; unfold wrap64; omega
        have g4 : IntKind.i64.wrap (2 * ((n : Int) - 2)) = 2 * ((n : Int) - 2) := by rw [IntWalk.i64_left]; unfold wrap64; omega
        have g5 : IntKind.i64.wrap (128 + (sizeN (zigN s) : Int) + 1 + 2 * ((n : Int) - 2)) = 128 + (sizeN (zigN s) : Int) + 1 + 2 * ((n : Int) - 2) := by rw [IntWalk.i64_left]; unfold wrap64; omega
        clear hzl
        go_wp2_with fail
        refine (zig_any s wr HS.out.1 HS.out.2).mono ?_
        rintro e _ ⟨rfl, rfl⟩
        go_wp2_with fail
        refine (size_any (zigN s) wr HZL.out).mono ?_
        rintro e v2 ⟨rfl, hx2⟩
        have HXa := Lib.hid (HE.out.trans hx2)
        have HXr := Lib.hid hx2
        clear hx2
        go_wp2_with fail
        refine (size_any U _ HUU.out.1).mono ?_
        rintro e v3 ⟨rfl, hx3⟩
        have HXb := Lib.hid (HXa.out.trans hx3)
        have HXs := Lib.hid (HXr.out.trans hx3)
        clear hx3
        go_wp2_with fail
        refine (size_any Q _ HUU.out.2).mono ?_
        rintro e v4 ⟨rfl, hx4⟩
        have HXc := Lib.hid (HXb.out.trans hx4)
        have HXt := Lib.hid (HXs.out.trans hx4)
        clear hx4
        go_wp2_with fail
        refine (dbits_any _ _ v4 (Row.ext HR.out HXt.out) HOK.out (by rw [HLL.out]; omega)).mono ?_
        rintro e v5 ⟨rfl, hx5⟩
        rw [HW.out, hwn]
        have HXd := Lib.hid (HXc.out.trans hx5)
        clear hx5
        have t1 : (sizeN U : Int) ≤ 68 := by omega
        have t2 : (sizeN Q : Int) ≤ (sizeN U : Int) := by omega
        have t3 : (1 : Int) ≤ (sizeN Q : Int) := by omega
        go_wp2_with fail
        refine (known_any _).mono ?_
        rintro e v9 ⟨rfl, hx⟩
        go_wp2_with fail
        go_ret
        exact ⟨rfl, HXd.out.trans hx⟩
      · have hw : wantN s n = if 0 < n then 128 else 0 := by unfold wantN; rw [if_neg h2]
        have HXa := HE
        have HXr := Lib.hid (Ext.refl wr)
        by_cases h1 : 0 < n
        · have hI1 : (0 : Int) < (n : Int) := by omega
          have hI2 : (n : Int) ≤ 1 := by omega
          have hwn : ((wantN s n : Nat) : Int) = 128 := by rw [hw, if_pos h1]; rfl
          clear hw
          go_wp2_with fail
          refine (size_any U _ HUU.out.1).mono ?_
          rintro e v3 ⟨rfl, hx3⟩
          have HXb := Lib.hid (HXa.out.trans hx3)
          have HXs := Lib.hid (HXr.out.trans hx3)
          clear hx3
          go_wp2_with fail
          refine (size_any Q _ HUU.out.2).mono ?_
          rintro e v4 ⟨rfl, hx4⟩
          have HXc := Lib.hid (HXb.out.trans hx4)
          have HXt := Lib.hid (HXs.out.trans hx4)
          clear hx4
          go_wp2_with fail
          refine (dbits_any _ _ v4 (Row.ext HR.out HXt.out) HOK.out (by rw [HLL.out]; omega)).mono ?_
          rintro e v5 ⟨rfl, hx5⟩
          rw [HW.out, hwn]
          have HXd := Lib.hid (HXc.out.trans hx5)
          clear hx5
          have t1 : (sizeN U : Int) ≤ 68 := by omega
          have t2 : (sizeN Q : Int) ≤ (sizeN U : Int) := by omega
          have t3 : (1 : Int) ≤ (sizeN Q : Int) := by omega
          go_wp2_with fail
          refine (known_any _).mono ?_
          rintro e v9 ⟨rfl, hx⟩
          go_wp2_with fail
          go_ret
          exact ⟨rfl, HXd.out.trans hx⟩
        · have hI1 : (n : Int) ≤ 0 := by omega
          have hI2 : (n : Int) ≤ 1 := by omega
          have hwn : ((wantN s n : Nat) : Int) = 0 := by rw [hw, if_neg h1]; rfl
          clear hw
          go_wp2_with fail
          refine (size_any U _ HUU.out.1).mono ?_
          rintro e v3 ⟨rfl, hx3⟩
          have HXb := Lib.hid (HXa.out.trans hx3)
          have HXs := Lib.hid (HXr.out.trans hx3)
          clear hx3
          go_wp2_with fail
          refine (size_any Q _ HUU.out.2).mono ?_
          rintro e v4 ⟨rfl, hx4⟩
          have HXc := Lib.hid (HXb.out.trans hx4)
          have HXt := Lib.hid (HXs.out.trans hx4)
          clear hx4
          go_wp2_with fail
          refine (dbits_any _ _ v4 (Row.ext HR.out HXt.out) HOK.out (by rw [HLL.out]; omega)).mono ?_
          rintro e v5 ⟨rfl, hx5⟩
          rw [HW.out, hwn]
          have HXd := Lib.hid (HXc.out.trans hx5)
          clear hx5
          have t1 : (sizeN U : Int) ≤ 68 := by omega
          have t2 : (sizeN Q : Int) ≤ (sizeN U : Int) := by omega
          have t3 : (1 : Int) ≤ (sizeN Q : Int) := by omega
          go_wp2_with fail
          refine (known_any _).mono ?_
          rintro e v9 ⟨rfl, hx⟩
          go_wp2_with fail
          go_ret
          exact ⟨rfl, HXd.out.trans hx⟩
end Go.Proofs.Ytpdebandcmhbcaa
