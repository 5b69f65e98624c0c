/- The walks of the reference's Of and Bytes. -/
import Derived.Test.YtpdebandcmhbcaaBitJ
namespace Go.Proofs.Ytpdebandcmhbcaa
open Go.RowKit Bit
set_option linter.unusedVariables false

/-- A slice that is cut at both ends. -/
theorem cut_mid {P : Program} {w : World} {A : Option Addr} {cs : List Value} (t e : TypeId) (i : TypeInfo) (size : Nat) (ht : P.underlying t = some (.slice e)) (hi : P.info? e = some i) (hsz : i.size = size)
    {n c : Nat} (h : Rd w A cs) (hl : cs.length = n * size) (hc : n ≤ c) (lo k : Nat) (li ki : Int) (hli : li = (lo : Int)) (hki : ki = (k : Int)) (hlo : lo ≤ k) (hk : k ≤ n) :
    ∃ A', Rd w A' ((cs.drop (lo * size)).take ((k - lo) * size)) ∧ ∀ w', (Instr.slice t (.slice A n c) (some (.int .i64 li)) (some (.int .i64 ki)) none).run P w' = .ok (.slice A' (k - lo) (c - lo)) w' := by
  subst hli hki
  refine ⟨_, (h.cut hl hc).take _, fun w' => ?_⟩
  have he : P.elem t = e := by simp [Program.elem, ht]
  rw [run_slice_lh w' t A n c (by rw [he]; exact ht) .i64 .i64 (lo : Int) (k : Int) (by omega) (by omega) (by omega), he]
  simp [sizeOf, typeInfo, hi, sliced, hsz]

theorem of_step (s : ByteArray) (k : Nat) (hk : k < s.size) : bitsOf s[k].toNat 8 = bitsAt s (8 * k) 8 := by
  apply List.ext_getElem
  · rw [length_bitsOf, bitsAt_length]
  · intro i h1 h2
    rw [length_bitsOf] at h1
    simp only [bitsOf, bitsAt, List.getElem_map, List.getElem_range]
    rw [bitAt_get s (8 * k + i) (by omega)]
    have e1 : (8 * k + i) / 8 = k := by omega
    have e2 : (8 * k + i) % 8 = i := by omega
    simp only [e1, e2]
theorem bits_take (s : ByteArray) (n m : Nat) (h : m ≤ n) : (bitsAt s 0 n).take m = bitsAt s 0 m := by
  simp [bitsAt, ← List.map_take, List.take_range, Nat.min_eq_left h]

theorem rOf_any (s : ByteArray) (m : Nat) (w : World) (hs : s.size ≤ 4194304) (hm : m ≤ 8 * s.size) :
    Calls Try.prog 22 #[.string s, .int .i64 m] w fun e w' => ∃ v, e = .returned v ∧ Boo w' v (bitsAt s 0 m) ∧ Ext w w' := by
  obtain ⟨i0, hi0, hz0, hz1, hz2⟩ := info_parts Try.boolInfo
  go_enter Try.func22, Try.ntmps22
  go_wp2
  go_loopw [5, 6] (fun o i wr => ∃ k : Nat, k ≤ s.size ∧ i = .int .i64 k ∧ OwnL w.heap.size wr o (bitsAt s 0 (8 * k)) ∧ Ext w wr) (fun _ i _ => s.size - (intOf i).toNat)
  case atStart => exact ⟨0, by omega, rfl, OwnL.nil _ _, Ext.refl _⟩
  case round =>
    obtain ⟨k, hk, rfl, hown, hext⟩ := hrel
    have HO := Lib.hid hown
    have HX := Lib.hid hext
    clear hown hext
    by_cases h1 : k < s.size
    · have hb := s[k].toNat_lt
      have hst : bitsAt s 0 (8 * k) ++ bitsOf s[k].toNat 8 = bitsAt s 0 (8 * (k + 1)) := by
        rw [of_step s k h1, ← bitsAt_add]
        rfl
      have HST := Lib.hid hst
      clear hst
      go_wp2_with (first
        | (go_at_call 35; refine (rBits_any s[k].toNat 8 wr (by omega) (by decide)).mono ?_; rintro e w1 ⟨v1, rfl, hown1, hx1⟩; obtain ⟨A1, n1, c1, rfl, hn1, hnc1, hcm1, hr1⟩ := hown1.boo; clear hown1; have HN1 := Lib.hid hn1; have HR1 := Lib.hid hr1; have HX1 := Lib.hid hx1; clear hn1 hr1 hx1)
        | (at_builtin
           refine app_bools _ rfl (.tmp 13) (.tmp 18) rfl w.heap.size _ (bitsAt s 0 (8 * k)) rfl (by exact HO.out.ext HX1.out) (Nat.le_trans HX.out.size HX1.out.size) A1 n1 c1 (bitsOf s[k].toNat 8) rfl HN1.out HR1.out (by rw [bitsAt_length, length_bitsOf]; omega) ?_
           intro v2 w2 hown2 hchg2
           have hext2 := ext_own (HX.out.trans HX1.out) hchg2
           clear hchg2))
      go_roundw
      case rel => exact ⟨k + 1, by omega, by go_num, by rw [← HST.out]; exact hown2, hext2⟩
      case measure => simp [intOf]; omega
    · obtain rfl : k = s.size := by omega
      obtain ⟨A, n, c, rfl, hn, hnc, hcm, hr⟩ := HO.out.boo
      rw [bitsAt_length] at hn
      subst hn
      obtain ⟨A2, hA2, hsl⟩ := cut_upto (P := Try.prog) 31 4 i0 1 Try.underlying31 hi0 hz1 hr hnc m (m : Int) rfl hm
      have HA2 := Lib.hid hA2
      clear hr hA2
      go_wp2
      go_ret
      refine ⟨_, rfl, ⟨A2, m, c, rfl, bitsAt_length _ _ _, by omega, hcm, ?_⟩, HX.out⟩
      have := HA2.out
      rw [Nat.mul_one, ← List.map_take, bits_take _ _ _ hm] at this
      exact this
end Go.Proofs.Ytpdebandcmhbcaa
