/- Numbers in digits, lines, frames. -/
import Derived.Test.YtdbboooblbdihaaRspF
namespace Go.Proofs.Ytdbboooblbdihaa
open Go.RowKit
set_option linter.unusedVariables false
set_option linter.unusedSectionVars false
set_option linter.unusedSimpArgs false
set_option maxRecDepth 100000


/-- A number's digits. -/
def digs (m : Nat) : List UInt8 := if m < 10 then [UInt8.ofNat (48 + m)] else digs (m / 10) ++ [UInt8.ofNat (48 + m % 10)]
termination_by m
decreasing_by omega
theorem digs_lt {m : Nat} (h : m < 10) : digs m = [UInt8.ofNat (48 + m)] := by rw [digs, if_pos h]
theorem digs_ge {m : Nat} (h : ¬ m < 10) : digs m = digs (m / 10) ++ [UInt8.ofNat (48 + m % 10)] := by rw [digs, if_neg h]
def decL (n : Int) : List UInt8 := if n < 0 then 45 :: digs n.natAbs else digs n.natAbs
def sgn (neg : Bool) (M : Nat) : Int := if neg = true then -(M : Int) else (M : Int)
theorem sgn_mod (neg : Bool) (M : Nat) : (sgn neg M).tmod 10 = sgn neg (M % 10) := by
  cases neg
  · show ((M : Int)).tmod 10 = ((M % 10 : Nat) : Int)
    rw [Int.tmod_eq_emod_of_nonneg (by omega)]
    omega
  · show (-(M : Int)).tmod 10 = -((M % 10 : Nat) : Int)
    rw [Int.neg_tmod, Int.tmod_eq_emod_of_nonneg (by omega)]
    omega
theorem sgn_div (neg : Bool) (M : Nat) : (sgn neg M).tdiv 10 = sgn neg (M / 10) := by
  cases neg
  · show ((M : Int)).tdiv 10 = ((M / 10 : Nat) : Int)
    rw [Int.tdiv_eq_ediv_of_nonneg (by omega)]
    omega
  · show (-(M : Int)).tdiv 10 = -((M / 10 : Nat) : Int)
    rw [Int.neg_tdiv, Int.tdiv_eq_ediv_of_nonneg (by omega)]
    omega
theorem digs_len (m : Nat) : (digs m).length ≤ m + 1 := by
  induction m using Nat.strongRecOn with
  | _ m ih =>
    by_cases h : m < 10
    · rw [digs_lt h]; simp
    · rw [digs_ge h, List.length_append]
      have := ih (m / 10) (by omega)
      simp
      omega
theorem digs_len19 (m : Nat) : ∀ k, m < 10 ^ k → 0 < k → (digs m).length ≤ k := by
  induction m using Nat.strongRecOn with
  | _ m ih =>
    intro k hk h0
    by_cases h : m < 10
    · rw [digs_lt h]; simp; omega
    · rw [digs_ge h, List.length_append]
      obtain ⟨j, rfl⟩ : ∃ j, k = j + 1 := ⟨k - 1, by omega⟩
      have hp : 10 ^ (j + 1) = 10 ^ j * 10 := Nat.pow_succ ..
      have hj : 0 < j := by
        apply Decidable.byContradiction
        intro hj
        have : j = 0 := by omega
        subst this
        omega
      have := ih (m / 10) (by omega) j (by omega) hj
      simp
      omega
theorem own_lit (w : World) (x : UInt8) (v : Int) (h : v = (x.toNat : Int)) : OwnB w (w.alloc (.cells #[.int .u8 v] 5)) (.slice (some ⟨w.heap.size, 0, none⟩) 1 1) [x] := by
  subst h
  exact World.ownsRow_lit w #[byteV x] 1 (Nat.le_refl _) (by simp [maxLen]) rfl
set_option maxHeartbeats 4000000 in
theorem decimal_any (n : Int) (w : World) (h1 : -9223372036854775808 ≤ n) (h2 : n ≤ 9223372036854775807) :
    Calls Try.prog 35 #[.int .i64 n] w fun e w' => e = .returned (.string (bsv (decL n))) ∧ Ext w w' := by
  obtain ⟨neg, N, hn, hneg, hN⟩ : ∃ (neg : Bool) (N : Nat), n = sgn neg N ∧ (n < 0 ↔ neg = true) ∧ N = n.natAbs := by
    by_cases h : n < 0
    · exact ⟨true, n.natAbs, by show n = -(n.natAbs : Int); omega, by simp [h], rfl⟩
    · exact ⟨false, n.natAbs, by show n = (n.natAbs : Int); omega, by simp [h], rfl⟩
  have hNb : N ≤ 9223372036854775808 := by omega
  have hdl := digs_len19 N 19 (by omega) (by decide)
  have HN := Lib.hid hn
  have HNG := Lib.hid hneg
  have HNN := Lib.hid hN
  have HDL := Lib.hid hdl
  clear hn hneg hN hdl
  go_enter Try.func35, Try.ntmps35
  go_wp2_with fail
  go_loopw [3, 4] (fun bv mv wr => ∃ (M : Nat) (out : List UInt8) (A : Option Addr) (c : Nat) (mi : Int), bv = .slice A out.length c ∧ mv = .int .i64 mi ∧ mi = sgn neg M ∧ digs N = digs M ++ out ∧ M ≤ N ∧ Rd wr A (out.map byteV) ∧ Ext w wr) (fun _ mv _ => (intOf mv).natAbs)
  case atStart => exact ⟨N, [], none, 0, n, rfl, rfl, HN.out, by simp, Nat.le_refl _, Rd.nil _ _, Ext.refl _⟩
  case round =>
    obtain ⟨M, out, A, c, mi, rfl, rfl, hmi, hdg, hMN, hrd, hx⟩ := hrel
    have HMI := Lib.hid hmi
    have HDG := Lib.hid hdg
    have HRD := Lib.hid hrd
    have HX := Lib.hid hx
    have hmod : mi.tmod 10 = sgn neg (M % 10) := by rw [hmi, sgn_mod]
    have hdiv : mi.tdiv 10 = sgn neg (M / 10) := by rw [hmi, sgn_div]
    obtain ⟨d, hd⟩ : ∃ d, M % 10 = d := ⟨_, rfl⟩
    have hd10 : d < 10 := by omega
    rw [hd] at hmod
    have HD := Lib.hid hd
    have HDV := Lib.hid hdiv
    clear hmi hdg hrd hx hd hdiv
    cases neg with
    | false =>
      have hnn : ¬ n < 0 := by rw [HNG.out]; simp
      have hmod2 : mi.tmod 10 = (d : Int) := hmod
      have hnl : ¬ ((d : Int) < 0) := by omega
      clear hmod
      go_upto_region 7 with fail
      obtain ⟨x, hx⟩ : ∃ x, x = UInt8.ofNat (48 + d) := ⟨_, rfl⟩
      have hxv : (48 + (d : Int) : Int) = (x.toNat : Int) := by rw [hx, UInt8.toNat_ofNat']; omega
      have HXV := Lib.hid hxv
      have HXX := Lib.hid hx
      have HOL : Hid (out.length ≤ 19) := Lib.hid (by
        have e1 := HDL.out
        have e2 := HDG.out
        rw [e2, List.length_append] at e1
        omega)
      clear hxv hx
      by_cases hM : M < 10
      · have hdv : wrap64 (mi.tdiv 10) = 0 := by rw [HDV.out, show M / 10 = 0 by omega]; simp [sgn, wrap64]
        have hfin : digs N = [x] ++ out := by
          have e : M = d := by have := HD.out; omega
          rw [HDG.out, digs_lt hM, HXX.out, e]
        have HFIN := Lib.hid hfin
        clear hfin hM
        go_wp2_with (first
          | (at_builtin
             refine app_bytes (wr.alloc (.cells #[.int .u8 (48 + (d : Int))] 5)) rfl (.tmp 18) (.tmp 19) rfl wr (.slice (some ⟨wr.heap.size, 0, none⟩) 1 1) [x] rfl (own_lit wr x _ HXV.out) A out.length c out rfl rfl (HRD.out.ext (Ext.alloc wr _)) (by simp; have := HOL.out; omega) (Ext.alloc wr _) ?_
             intro v2 w2 hown hext
             obtain ⟨A2, n2, c2, rfl, hl2, _, _, hr2⟩ := hown.byt
             have HR2 := Lib.hid hr2
             have HX2 := Lib.hid (HX.out.trans hext)
             have hl3 : n2 = ([x] ++ out).length := hl2.symm
             subst hl3
             obtain ⟨sx, hback, hcb, HSX⟩ : ∃ sx : ByteArray, (convert 22 9 (.slice A2 (out.length + 1) c2)).run Try.prog w2 = .ok (.string sx) w2 ∧ ¬ (9223372036854775807 < 1 + sx.size) ∧ Hid (sx = bsv ([x] ++ out)) := ⟨_, back (by simp) hr2, by have := HOL.out; show ¬ (_ < 1 + ([x] ++ out).toArray.size); simp; omega, Lib.hid rfl⟩
             clear hown hext hl2 hr2)
          )
        go_ret
        refine ⟨?_, HX2.out⟩
        have hde : decL n = [x] ++ out := by unfold decL; simp only [HNN.out.symm, HFIN.out]; rw [if_neg (by omega)]
        rw [hde]
        simp only [HSX.out]
        rfl
      · obtain ⟨mq, hmq⟩ : ∃ mq, mq = sgn false (M / 10) := ⟨_, rfl⟩
        have hq : wrap64 (mi.tdiv 10) = mq := by
          rw [HDV.out, hmq, ← IntWalk.i64_left]
          exact IntWalk.i64_in _ (by simp [sgn]; omega)
        have hdvB : (mq == 0) = false := by rw [hmq]; simp [sgn]; omega
        have HMQ := Lib.hid hmq
        have hnx : digs N = digs (M / 10) ++ ([x] ++ out) := by rw [HDG.out, digs_ge hM, HXX.out, HD.out, List.append_assoc]
        have HNX := Lib.hid hnx
        clear hnx hmq
        go_wp2_with (first
          | (at_builtin
             refine app_bytes (wr.alloc (.cells #[.int .u8 (48 + (d : Int))] 5)) rfl (.tmp 18) (.tmp 19) rfl wr (.slice (some ⟨wr.heap.size, 0, none⟩) 1 1) [x] rfl (own_lit wr x _ HXV.out) A out.length c out rfl rfl (HRD.out.ext (Ext.alloc wr _)) (by simp; have := HOL.out; omega) (Ext.alloc wr _) ?_
             intro v2 w2 hown hext
             obtain ⟨A2, n2, c2, rfl, hl2, _, _, hr2⟩ := hown.byt
             have HR2 := Lib.hid hr2
             have HX2 := Lib.hid (HX.out.trans hext)
             have hl3 : n2 = ([x] ++ out).length := hl2.symm
             subst hl3
             skip
             clear hown hext hl2 hr2)
          )
        refine ⟨⟨M / 10, [x] ++ out, A2, c2, mq, by simp, by rw [hq], HMQ.out, HNX.out, by omega, HR2.out, HX2.out⟩, ?_⟩
        rw [hq]
        show mq.natAbs < mi.natAbs
        have := HMI.out
        have := HMQ.out
        simp [sgn] at *
        omega
    | true =>
      have hnn : n < 0 := by rw [HNG.out]
      by_cases hd0 : d = 0
      · subst hd0
        have hmod2 : mi.tmod 10 = 0 := hmod
        clear hmod
        go_upto_region 7 with fail
        obtain ⟨x, hx⟩ : ∃ x, x = UInt8.ofNat (48 + 0) := ⟨_, rfl⟩
        have hxv : (48 : Int) = (x.toNat : Int) := by rw [hx, UInt8.toNat_ofNat']; omega
        have HXV := Lib.hid hxv
        have HXX := Lib.hid hx
        have HOL : Hid (out.length ≤ 19) := Lib.hid (by
          have e1 := HDL.out
          have e2 := HDG.out
          rw [e2, List.length_append] at e1
          omega)
        clear hxv hx
        by_cases hM : M < 10
        · have hdv : wrap64 (mi.tdiv 10) = 0 := by rw [HDV.out, show M / 10 = 0 by omega]; simp [sgn, wrap64]
          have hfin : digs N = [x] ++ out := by
            have e : M = 0 := by have := HD.out; omega
            rw [HDG.out, digs_lt hM, HXX.out, e]
          have HFIN := Lib.hid hfin
          clear hfin hM
          go_wp2_with (first
            | (at_builtin
               refine app_bytes (wr.alloc (.cells #[.int .u8 (48)] 5)) rfl (.tmp 18) (.tmp 19) rfl wr (.slice (some ⟨wr.heap.size, 0, none⟩) 1 1) [x] rfl (own_lit wr x _ HXV.out) A out.length c out rfl rfl (HRD.out.ext (Ext.alloc wr _)) (by simp; have := HOL.out; omega) (Ext.alloc wr _) ?_
               intro v2 w2 hown hext
               obtain ⟨A2, n2, c2, rfl, hl2, _, _, hr2⟩ := hown.byt
               have HR2 := Lib.hid hr2
               have HX2 := Lib.hid (HX.out.trans hext)
               have hl3 : n2 = ([x] ++ out).length := hl2.symm
               subst hl3
               obtain ⟨sx, hback, hcb, HSX⟩ : ∃ sx : ByteArray, (convert 22 9 (.slice A2 (out.length + 1) c2)).run Try.prog w2 = .ok (.string sx) w2 ∧ ¬ (9223372036854775807 < 1 + sx.size) ∧ Hid (sx = bsv ([x] ++ out)) := ⟨_, back (by simp) hr2, by have := HOL.out; show ¬ (_ < 1 + ([x] ++ out).toArray.size); simp; omega, Lib.hid rfl⟩
               clear hown hext hl2 hr2)
            )
          go_ret
          refine ⟨?_, HX2.out⟩
          have hde : decL n = 45 :: ([x] ++ out) := by unfold decL; simp only [HNN.out.symm, HFIN.out]; rw [if_pos (by omega)]
          rw [hde]
          simp only [HSX.out]
          rfl
        · obtain ⟨mq, hmq⟩ : ∃ mq, mq = sgn true (M / 10) := ⟨_, rfl⟩
          have hq : wrap64 (mi.tdiv 10) = mq := by
            rw [HDV.out, hmq, ← IntWalk.i64_left]
            exact IntWalk.i64_in _ (by simp [sgn]; omega)
          have hdvB : (mq == 0) = false := by rw [hmq]; simp [sgn]; omega
          have HMQ := Lib.hid hmq
          have hnx : digs N = digs (M / 10) ++ ([x] ++ out) := by rw [HDG.out, digs_ge hM, HXX.out, HD.out, List.append_assoc]
          have HNX := Lib.hid hnx
          clear hnx hmq
          go_wp2_with (first
            | (at_builtin
               refine app_bytes (wr.alloc (.cells #[.int .u8 (48)] 5)) rfl (.tmp 18) (.tmp 19) rfl wr (.slice (some ⟨wr.heap.size, 0, none⟩) 1 1) [x] rfl (own_lit wr x _ HXV.out) A out.length c out rfl rfl (HRD.out.ext (Ext.alloc wr _)) (by simp; have := HOL.out; omega) (Ext.alloc wr _) ?_
               intro v2 w2 hown hext
               obtain ⟨A2, n2, c2, rfl, hl2, _, _, hr2⟩ := hown.byt
               have HR2 := Lib.hid hr2
               have HX2 := Lib.hid (HX.out.trans hext)
               have hl3 : n2 = ([x] ++ out).length := hl2.symm
               subst hl3
               skip
               clear hown hext hl2 hr2)
            )
          refine ⟨⟨M / 10, [x] ++ out, A2, c2, mq, by simp, by rw [hq], HMQ.out, HNX.out, by omega, HR2.out, HX2.out⟩, ?_⟩
          rw [hq]
          show mq.natAbs < mi.natAbs
          have := HMI.out
          have := HMQ.out
          simp [sgn] at *
          omega
      · have hmod2 : mi.tmod 10 = -(d : Int) := hmod
        have hnl : -(d : Int) < 0 := by omega
        have hnl2 : 0 < d := by omega
        clear hmod
        go_upto_region 7 with fail
        obtain ⟨x, hx⟩ : ∃ x, x = UInt8.ofNat (48 + d) := ⟨_, rfl⟩
        have hxv : (48 + (d : Int) : Int) = (x.toNat : Int) := by rw [hx, UInt8.toNat_ofNat']; omega
        have HXV := Lib.hid hxv
        have HXX := Lib.hid hx
        have HOL : Hid (out.length ≤ 19) := Lib.hid (by
          have e1 := HDL.out
          have e2 := HDG.out
          rw [e2, List.length_append] at e1
          omega)
        clear hxv hx
        by_cases hM : M < 10
        · have hdv : wrap64 (mi.tdiv 10) = 0 := by rw [HDV.out, show M / 10 = 0 by omega]; simp [sgn, wrap64]
          have hfin : digs N = [x] ++ out := by
            have e : M = d := by have := HD.out; omega
            rw [HDG.out, digs_lt hM, HXX.out, e]
          have HFIN := Lib.hid hfin
          clear hfin hM
          go_wp2_with (first
            | (at_builtin
               refine app_bytes (wr.alloc (.cells #[.int .u8 (48 + (d : Int))] 5)) rfl (.tmp 18) (.tmp 19) rfl wr (.slice (some ⟨wr.heap.size, 0, none⟩) 1 1) [x] rfl (own_lit wr x _ HXV.out) A out.length c out rfl rfl (HRD.out.ext (Ext.alloc wr _)) (by simp; have := HOL.out; omega) (Ext.alloc wr _) ?_
               intro v2 w2 hown hext
               obtain ⟨A2, n2, c2, rfl, hl2, _, _, hr2⟩ := hown.byt
               have HR2 := Lib.hid hr2
               have HX2 := Lib.hid (HX.out.trans hext)
               have hl3 : n2 = ([x] ++ out).length := hl2.symm
               subst hl3
               obtain ⟨sx, hback, hcb, HSX⟩ : ∃ sx : ByteArray, (convert 22 9 (.slice A2 (out.length + 1) c2)).run Try.prog w2 = .ok (.string sx) w2 ∧ ¬ (9223372036854775807 < 1 + sx.size) ∧ Hid (sx = bsv ([x] ++ out)) := ⟨_, back (by simp) hr2, by have := HOL.out; show ¬ (_ < 1 + ([x] ++ out).toArray.size); simp; omega, Lib.hid rfl⟩
               clear hown hext hl2 hr2)
            )
          go_ret
          refine ⟨?_, HX2.out⟩
          have hde : decL n = 45 :: ([x] ++ out) := by unfold decL; simp only [HNN.out.symm, HFIN.out]; rw [if_pos (by omega)]
          rw [hde]
          simp only [HSX.out]
          rfl
        · obtain ⟨mq, hmq⟩ : ∃ mq, mq = sgn true (M / 10) := ⟨_, rfl⟩
          have hq : wrap64 (mi.tdiv 10) = mq := by
            rw [HDV.out, hmq, ← IntWalk.i64_left]
            exact IntWalk.i64_in _ (by simp [sgn]; omega)
          have hdvB : (mq == 0) = false := by rw [hmq]; simp [sgn]; omega
          have HMQ := Lib.hid hmq
          have hnx : digs N = digs (M / 10) ++ ([x] ++ out) := by rw [HDG.out, digs_ge hM, HXX.out, HD.out, List.append_assoc]
          have HNX := Lib.hid hnx
          clear hnx hmq
          go_wp2_with (first
            | (at_builtin
               refine app_bytes (wr.alloc (.cells #[.int .u8 (48 + (d : Int))] 5)) rfl (.tmp 18) (.tmp 19) rfl wr (.slice (some ⟨wr.heap.size, 0, none⟩) 1 1) [x] rfl (own_lit wr x _ HXV.out) A out.length c out rfl rfl (HRD.out.ext (Ext.alloc wr _)) (by simp; have := HOL.out; omega) (Ext.alloc wr _) ?_
               intro v2 w2 hown hext
               obtain ⟨A2, n2, c2, rfl, hl2, _, _, hr2⟩ := hown.byt
               have HR2 := Lib.hid hr2
               have HX2 := Lib.hid (HX.out.trans hext)
               have hl3 : n2 = ([x] ++ out).length := hl2.symm
               subst hl3
               skip
               clear hown hext hl2 hr2)
            )
          refine ⟨⟨M / 10, [x] ++ out, A2, c2, mq, by simp, by rw [hq], HMQ.out, HNX.out, by omega, HR2.out, HX2.out⟩, ?_⟩
          rw [hq]
          show mq.natAbs < mi.natAbs
          have := HMI.out
          have := HMQ.out
          simp [sgn] at *
          omega
theorem toList_append2 (s t : ByteArray) : (s ++ t).toList = s.toList ++ t.toList := by
  rw [Lib.toList_data, Lib.toList_data, Lib.toList_data, ByteArray.data_append, Array.toList_append]
theorem bsv_list (l : List UInt8) : (bsv l).toList = l := toList_mk l
theorem bsv_size (l : List UInt8) : (bsv l).size = l.length := by rw [← size_list, bsv_list]
theorem bsv_app (a b : List UInt8) : bsv a ++ bsv b = bsv (a ++ b) := bytes_ext (by rw [toList_append2, bsv_list, bsv_list, bsv_list])
theorem bsv_of (s : ByteArray) : bsv s.toList = s := bytes_ext (by rw [bsv_list])
def crlf : List UInt8 := [13, 10]
theorem row_any (a b : ByteArray) (w : World) (ha : a.size + b.size ≤ 2000000000) :
    Calls Try.prog 34 #[.string a, .string b] w fun e w' => e = .returned (.string (bsv (a.toList ++ b.toList ++ crlf))) ∧ Ext w w' := by
  have hr := Rd.new w #[.int .u8 13, .int .u8 10] 5
  have hback := back (c := 2) (l := [13, 10]) (n := 2) rfl hr
  have hx := Ext.alloc w (.cells #[.int .u8 13, .int .u8 10] 5)
  have hb1 : ¬ (9223372036854775807 < a.size + b.size) := by omega
  have hb2 : ¬ (9223372036854775807 < a.size + b.size + 2) := by omega
  obtain ⟨cz, hcz, hcs⟩ : ∃ cz : ByteArray, (⟨[13, 10].toArray⟩ : ByteArray) = cz ∧ cz.size = 2 := ⟨_, rfl, rfl⟩
  rw [hcz] at hback
  have HCZ := Lib.hid hcz
  clear hr hcz
  go_enter Try.func34, Try.ntmps34
  go_wp2_with fail
  go_ret
  refine ⟨?_, hx⟩
  have e : a ++ b ++ cz = bsv (a.toList ++ b.toList ++ crlf) := bytes_ext (by
    rw [toList_append2, toList_append2, bsv_list, ← HCZ.out, show (⟨[13, 10].toArray⟩ : ByteArray).toList = crlf from toList_mk _])
  rw [← e]
  rfl
def bulkL (s : List UInt8) : List UInt8 := 36 :: decL s.length ++ crlf ++ (s ++ crlf)
theorem decL_len (n : Nat) (h : n ≤ 9223372036854775807) : (decL (n : Int)).length ≤ 19 := by
  unfold decL
  rw [if_neg (by omega)]
  exact digs_len19 _ 19 (by omega) (by decide)
theorem bulkL_len (s : List UInt8) (h : s.length ≤ 1000000000) : (bulkL s).length ≤ s.length + 24 := by
  have := decL_len s.length (by omega)
  unfold bulkL crlf
  simp
  omega
theorem bulk_any (s : ByteArray) (w : World) (hs : s.size ≤ 1000000000) :
    Calls Try.prog 36 #[.string s] w fun e w' => e = .returned (.string (bsv (bulkL s.toList))) ∧ Ext w w' := by
  have hdl := decL_len s.size (by omega)
  have hdz := bsv_size (decL (s.size : Int))
  have hA0 : bsv ((⟨#[36]⟩ : ByteArray).toList ++ (bsv (decL (s.size : Int))).toList ++ crlf) = bsv (36 :: decL (s.size : Int) ++ crlf) := by rw [bsv_list, show (⟨#[36]⟩ : ByteArray).toList = [36] from toList_mk [36]]; rfl
  have hB0 : bsv ((⟨#[]⟩ : ByteArray).toList ++ s.toList ++ crlf) = bsv (s.toList ++ crlf) := by rw [show (⟨#[]⟩ : ByteArray).toList = [] from toList_mk []]; rfl
  have HA := Lib.hid hA0
  have HB := Lib.hid hB0
  clear hA0 hB0
  go_enter Try.func36, Try.ntmps36
  go_wp2_with fail
  refine (decimal_any (s.size : Int) w (by omega) (by omega)).mono ?_
  rintro e w1 ⟨rfl, hx1⟩
  go_wp2_with fail
  refine (row_any ⟨#[36]⟩ (bsv (decL (s.size : Int))) w1 (by rw [hdz]; show 1 + _ ≤ _; omega)).mono ?_
  rintro e w2 ⟨rfl, hx2⟩
  rw [HA.out]
  go_wp2_with fail
  refine (row_any ⟨#[]⟩ s w2 (by show 0 + _ ≤ _; omega)).mono ?_
  rintro e w3 ⟨rfl, hx3⟩
  rw [HB.out]
  have HX := Lib.hid (hx1.trans (hx2.trans hx3))
  have hC : bsv (36 :: decL (s.size : Int) ++ crlf) ++ bsv (s.toList ++ crlf) = bsv (bulkL s.toList) := by rw [bsv_app]; unfold bulkL; rw [size_list]
  have hz1 : (bsv (36 :: decL (s.size : Int) ++ crlf)).size ≤ 30 := by rw [bsv_size]; simp [crlf]; omega
  have hz2 : (bsv (s.toList ++ crlf)).size ≤ 1000000002 := by rw [bsv_size, List.length_append, size_list]; simp [crlf]; omega
  have HC := Lib.hid hC
  clear hC hx1 hx2 hx3
  simp only [List.cons_append] at hz1 HC ⊢
  generalize bsv (36 :: (decL (s.size : Int) ++ crlf)) = sa at hz1 HC ⊢
  generalize bsv (s.toList ++ crlf) = sb at hz2 HC ⊢
  have hb1 : ¬ (9223372036854775807 < sa.size + sb.size) := by omega
  go_wp2_with fail
  go_ret
  refine ⟨?_, HX.out⟩
  rw [← HC.out]
  rfl
def goodW (ws : List ByteArray) : Prop := ws.length ≤ 64 ∧ ∀ x ∈ ws, x.size ≤ 512
def headL (n : Nat) : List UInt8 := 42 :: decL (n : Int) ++ crlf
def frameL (ws : List ByteArray) : List UInt8 := headL ws.length ++ ws.flatMap fun x => bulkL x.toList
instance (ws : List ByteArray) : Decidable (goodW ws) := inferInstanceAs (Decidable (_ ∧ _))
def frameB (ws : List ByteArray) : ByteArray := if goodW ws then bsv (frameL ws) else ⟨#[]⟩
def bodyL (ws : List ByteArray) : List UInt8 := ws.flatMap fun x => bulkL x.toList
theorem bodyL_snoc {ws : List ByteArray} {k : Nat} {x : ByteArray} (h : ws[k]? = some x) : bodyL (ws.take (k + 1)) = bodyL (ws.take k) ++ bulkL x.toList := by
  unfold bodyL
  rw [List.take_add_one, h, List.flatMap_append]
  simp
theorem bodyL_len : ∀ (ws : List ByteArray), (∀ x ∈ ws, x.size ≤ 512) → (bodyL ws).length ≤ ws.length * 536 := by
  intro ws
  induction ws with
  | nil => intro _; simp [bodyL]
  | cons x t ih =>
    intro h
    have h1 := ih (fun y hy => h y (by simp [hy]))
    have h2 := h x (by simp)
    have h3 := bulkL_len x.toList (by rw [size_list]; omega)
    rw [size_list] at h3
    show (bulkL x.toList ++ bodyL t).length ≤ _
    rw [List.length_append, List.length_cons]
    omega
theorem headL_len (n : Nat) (h : n ≤ 9223372036854775807) : (headL n).length ≤ 22 := by
  have := decL_len n h
  unfold headL crlf
  simp
  omega
set_option maxHeartbeats 2000000 in
theorem frame_any (v : Value) (ws : List ByteArray) (w : World) (hv : Txt w v ws) :
    Calls Try.prog 19 #[v] w fun e w' => e = .returned (.string (frameB ws)) ∧ Ext w w' := by
  obtain ⟨A, n, c, rfl, hn, hnc, hcm, hr⟩ := hv
  have HN := Lib.hid hn
  have HR := Lib.hid hr
  by_cases h64 : n ≤ 64
  · have h64B : decide ((64 : Int) < (n : Int)) = false := decide_eq_false (by omega)
    have hA0 : bsv ((⟨#[42]⟩ : ByteArray).toList ++ (bsv (decL (n : Int))).toList ++ crlf) = bsv (headL n) := by rw [bsv_list, show (⟨#[42]⟩ : ByteArray).toList = [42] from toList_mk [42]]; rfl
    have HA := Lib.hid hA0
    have hdl := decL_len n (by omega)
    have hdz := bsv_size (decL (n : Int))
    clear hn hr hA0
    go_enter Try.func19, Try.ntmps19
    go_wp2_with fail
    refine (decimal_any (n : Int) w (by omega) (by omega)).mono ?_
    rintro e w1 ⟨rfl, hx1⟩
    go_wp2_with fail
    refine (row_any ⟨#[42]⟩ (bsv (decL (n : Int))) w1 (by rw [hdz]; show 1 + _ ≤ _; omega)).mono ?_
    rintro e w2 ⟨rfl, hx2⟩
    rw [HA.out]
    have HX2 := Lib.hid (hx1.trans hx2)
    clear hx1 hx2
    go_wp2_with fail
    go_loopw [3, 15] (fun sv iv wr => ∃ k : Nat, k ≤ n ∧ iv = .int .i64 (k : Int) ∧ sv = .string (bsv (headL n ++ bodyL (ws.take k))) ∧ (∀ x ∈ ws.take k, x.size ≤ 512) ∧ Ext w wr) (fun _ iv _ => n - (intOf iv).toNat)
    case atStart => exact ⟨0, by omega, rfl, by simp [bodyL], by simp, HX2.out⟩
    case round =>
      obtain ⟨k, hk, rfl, rfl, hall, hx⟩ := hrel
      have HALL := Lib.hid hall
      have HX := Lib.hid hx
      clear hall hx HX2
      by_cases hkn : k < n
      · have hkI : (k : Int) < (n : Int) := by omega
        have hkJ : (0 : Int) ≤ (k : Int) := by omega
        have hlm := HN.out
        obtain ⟨x, hxk⟩ : ∃ x, ws[k]? = some x := ⟨_, List.getElem?_eq_getElem (by omega)⟩
        obtain ⟨ad, rfl, hcell⟩ := (HR.out.ext HX.out).some_ (by rw [List.length_map]; omega)
        have d0 := hcell k (.string x) (by rw [List.getElem?_map, hxk]; rfl)
        have HXK := Lib.hid hxk
        clear hcell hxk hlm
        by_cases hx5 : x.size ≤ 512
        · have h5B : decide ((512 : Int) < (x.size : Int)) = false := decide_eq_false (by omega)
          have h5C : decide (512 < x.size) = false := decide_eq_false (by omega)
          go_wp2_with fail
          refine (bulk_any x wr (by omega)).mono ?_
          rintro e w4 ⟨rfl, hx4⟩
          have HX4 := Lib.hid (HX.out.trans hx4)
          have hz1 : (bsv (bulkL x.toList)).size ≤ 536 := by
            have := bulkL_len x.toList (by rw [size_list]; omega)
            rw [bsv_size]
            rw [size_list] at this
            omega
          have hz2 : (bsv (headL n ++ bodyL (ws.take k))).size ≤ 40000 := by
            have h1 := headL_len n (by omega)
            have h2 := bodyL_len (ws.take k) HALL.out
            rw [List.length_take] at h2
            rw [bsv_size, List.length_append]
            omega
          have hap : bsv (headL n ++ bodyL (ws.take k)) ++ bsv (bulkL x.toList) = bsv (headL n ++ bodyL (ws.take (k + 1))) := by rw [bsv_app, bodyL_snoc HXK.out, List.append_assoc]
          have HAP := Lib.hid hap
          clear hap d0 hx4
          generalize bsv (bulkL x.toList) = sb at hz1 HAP ⊢
          generalize bsv (headL n ++ bodyL (ws.take k)) = sa at hz2 HAP ⊢
          have hb1 : ¬ (9223372036854775807 < sa.size + sb.size) := by omega
          go_wp2_with fail
          go_roundw
          case rel => exact ⟨k + 1, by omega, by go_num, by rw [HAP.out], fun y hy => by
            rw [List.take_add_one, HXK.out] at hy
            rcases List.mem_append.1 hy with hy | hy
            · exact HALL.out y hy
            · simp at hy; subst hy; exact hx5, HX4.out⟩
          case measure => simp [intOf]; omega
        · have h5B : decide ((512 : Int) < (x.size : Int)) = true := decide_eq_true (by omega)
          have h5C : decide (512 < x.size) = true := decide_eq_true (by omega)
          have hbad : frameB ws = ⟨#[]⟩ := if_neg (fun h => hx5 (h.2 x (List.mem_of_getElem? HXK.out)))
          have HB := Lib.hid hbad
          clear hbad
          go_wp2_with fail
          go_ret
          rw [HB.out]
          exact ⟨rfl, HX.out⟩
      · obtain rfl : k = n := by omega
        have hlm := HN.out
        have hg : goodW ws := ⟨by omega, by have := HALL.out; rwa [List.take_of_length_le (by omega)] at this⟩
        have hok : frameB ws = bsv (headL k ++ bodyL (ws.take k)) := by unfold frameB; rw [if_pos hg, List.take_of_length_le (by omega)]; unfold frameL; rw [hlm]; rfl
        have HB := Lib.hid hok
        clear hok hg
        generalize bsv (headL k ++ bodyL (ws.take k)) = sa at HB ⊢
        go_wp2_with fail
        go_ret
        rw [HB.out]
        exact ⟨rfl, HX.out⟩
  · have h64B : decide ((64 : Int) < (n : Int)) = true := decide_eq_true (by omega)
    have hbad : frameB ws = ⟨#[]⟩ := if_neg (fun h => by have := h.1; omega)
    rw [hbad]
    clear hn hr hbad
    go_enter Try.func19, Try.ntmps19
    go_wp2_with fail
    go_ret
    exact ⟨rfl, Ext.refl _⟩
end Go.Proofs.Ytdbboooblbdihaa
