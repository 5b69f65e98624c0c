/- The document's answer: digits, lines, frames. -/
import Derived.Test.YtdbboooblbdihaaRspL
namespace Go.Proofs.Ytdbboooblbdihaa
open Go.RowKit
set_option linter.unusedVariables false
set_option linter.unusedSectionVars false
set_option linter.unusedSimpArgs false
set_option maxRecDepth 100000


theorem decL_step {neg : Bool} {N : Nat} (h : ¬ N < 10) : decL (sgn neg N) = decL (sgn neg (N / 10)) ++ [UInt8.ofNat (48 + N % 10)] := by
  have e1 : (sgn neg N).natAbs = N := by cases neg <;> simp [sgn]
  have e2 : (sgn neg (N / 10)).natAbs = N / 10 := by cases neg <;> simp only [sgn] <;> simp <;> omega
  unfold decL
  rw [e1, e2, digs_ge h]
  cases neg
  · rw [if_neg (by simp [sgn] <;> omega), if_neg (by simp [sgn] <;> omega)]
  · rw [if_pos (by simp [sgn] <;> omega), if_pos (by simp [sgn] <;> omega)]; rfl
theorem decL_last {neg : Bool} {N : Nat} (h : N < 10) (hn : neg = true → 0 < N) : decL (sgn neg N) = if neg = true then [45, UInt8.ofNat (48 + N)] else [UInt8.ofNat (48 + N)] := by
  have e1 : (sgn neg N).natAbs = N := by cases neg <;> simp [sgn]
  unfold decL
  rw [e1, digs_lt h]
  cases neg
  · rw [if_neg (by simp [sgn] <;> omega)]; rfl
  · rw [if_pos (by have := hn rfl; simp [sgn] <;> omega)]; rfl
theorem decL_size2 {n : Int} (h1 : -9223372036854775808 ≤ n) (h2 : n ≤ 9223372036854775807) : (decL n).length ≤ 20 := by
  have := digs_len19 n.natAbs 19 (by omega) (by decide)
  unfold decL
  split
  · simp; omega
  · omega
set_option maxHeartbeats 400000 in
theorem digits_all : ∀ (k : Nat) (n : Int) (w : World), n.natAbs < k → -9223372036854775808 ≤ n → n ≤ 9223372036854775807 → Calls Try.prog 51 #[.int .i64 n] w fun e w' => e = .returned (.string (bsv (decL n))) ∧ Ext w w' := by
  intro k0
  induction k0 with
  | zero => intro n w h; omega
  | succ k ih =>
  intro n w hk h1 h2
  obtain ⟨neg, N, hn, hneg, hN⟩ : ∃ (neg : Bool) (N : Nat), n = sgn neg N ∧ (n < 0 ↔ neg = true) ∧ N = n.natAbs := by
    by_cases h : n < 0
    · exact ⟨true, n.natAbs, by show n = -(n.natAbs : Int); omega, by simp [h], rfl⟩
    · exact ⟨false, n.natAbs, by show n = (n.natAbs : Int); omega, by simp [h], rfl⟩
  have hNb : N ≤ 9223372036854775808 := by omega
  have HN := Lib.hid hn
  have HNG := Lib.hid hneg
  have hmod : n.tmod 10 = sgn neg (N % 10) := by rw [hn, sgn_mod]
  have hdiv : n.tdiv 10 = sgn neg (N / 10) := by rw [hn, sgn_div]
  obtain ⟨d, hd⟩ : ∃ d, N % 10 = d := ⟨_, rfl⟩
  have hd10 : d < 10 := by omega
  rw [hd] at hmod
  have HD := Lib.hid hd
  have HDV := Lib.hid hdiv
  have H12 := Lib.hid (And.intro h1 h2)
  have HNA := Lib.hid hN
  have HKK := Lib.hid hk
  clear hn hneg hd hdiv h1 h2 hN hk
  go_enter Try.func51, Try.ntmps51
  cases neg with
  | false =>
    have HNN : Hid (¬ n < 0) := Lib.hid (by rw [HNG.out]; simp)
    have hmod2 : n.tmod 10 = (d : Int) := hmod
    have hnl : ¬ ((d : Int) < 0) := by omega
    clear hmod
    obtain ⟨x, hx⟩ : ∃ x, x = UInt8.ofNat (48 + d) := ⟨_, rfl⟩
    have hxv : (48 + (d : Int) : Int) = (x.toNat : Int) := by rw [hx, UInt8.toNat_ofNat']; omega
    have hr0 := Rd.new w #[.int .u8 (48 + (d : Int))] 5
    have hr : Rd (w.alloc (.cells #[.int .u8 (48 + (d : Int))] 5)) (some ⟨w.heap.size, 0, none⟩) ([x].map byteV) := by
      have e : ([x].map byteV) = (#[Value.int .u8 (48 + (d : Int))] : Array Value).toList := by rw [hxv]; rfl
      rw [e]; exact hr0
    have hback := back (c := 1) (l := [x]) (n := 1) rfl hr
    have hx1 := Ext.alloc w (.cells #[.int .u8 (48 + (d : Int))] 5)
    obtain ⟨sx, hsx⟩ : ∃ sx : ByteArray, (⟨[x].toArray⟩ : ByteArray) = sx := ⟨_, rfl⟩
    have hsz : sx.size = 1 := by rw [← hsx]; rfl
    have hsb : sx = bsv [x] := hsx.symm
    rw [hsx] at hback
    have HSB := Lib.hid hsb
    have HXX := Lib.hid hx
    clear hr0 hr hsx hsb hxv hx
    go_upto_region 5 with fail
    generalize w.alloc (.cells #[.int .u8 (48 + (d : Int))] 5) = w1 at hback hx1 ⊢
    have HX1 := Lib.hid hx1
    clear hback hx1
    by_cases hM : N < 10
    · have hdv : wrap64 (n.tdiv 10) = 0 := by rw [HDV.out, show N / 10 = 0 by omega]; simp [sgn, wrap64]
      have hdec : decL n = if false = true then [45, x] else [x] := by
        rw [HN.out, decL_last hM (by intro h; first | exact absurd h (by decide) | (have h1 := HNN.out; rw [HN.out] at h1; simp [sgn] at h1; omega)), show N = d by have := HD.out; omega, ← HXX.out]
      have HDEC := Lib.hid hdec
      have hb1 : ¬ (9223372036854775807 < 1 + sx.size) := by omega
      clear hdec hM
      go_upto_region 7 with fail
      have hnn := HNN.out
      go_wp2_with fail
      go_ret
      refine ⟨?_, HX1.out⟩
      rw [HDEC.out, HSB.out]
      first | rfl | (rw [if_pos rfl]; rfl)
    · obtain ⟨mq, hmq⟩ : ∃ mq, mq = sgn false (N / 10) := ⟨_, rfl⟩
      have hq : wrap64 (n.tdiv 10) = mq := by
        rw [HDV.out, hmq, ← IntWalk.i64_left]
        exact IntWalk.i64_in _ (by simp [sgn]; omega)
      have hdvB : (mq == 0) = false := by rw [hmq]; simp [sgn]; omega
      have hdvC : (mq != 0) = true := by simp [bne, hdvB]
      have hdec : decL n = decL mq ++ [x] := by rw [HN.out, decL_step hM, hmq, HXX.out, HD.out]
      have HDEC := Lib.hid hdec
      have hmr : -9223372036854775808 ≤ mq ∧ mq ≤ 9223372036854775807 := by rw [hmq]; simp [sgn]; omega
      have hma : mq.natAbs < k := by rw [hmq]; have := HNA.out; have := HKK.out; simp [sgn]; omega
      have HIH := Lib.hid (ih mq w1 hma hmr.1 hmr.2)
      have hsz2 : (bsv (decL mq)).size ≤ 20 := by rw [bsv_size]; exact decL_size2 hmr.1 hmr.2
      clear hdec hmq hM hma hmr
      go_wp2_with fail
      refine HIH.out.mono ?_
      rintro e w2 ⟨rfl, hx2⟩
      have HX2 := Lib.hid (HX1.out.trans hx2)
      have hap : bsv (decL mq) ++ sx = bsv (decL n) := by rw [HSB.out, bsv_app, ← HDEC.out]
      have HAP := Lib.hid hap
      clear hx2 hap
      generalize bsv (decL mq) = sa at hsz2 HAP ⊢
      have hb1 : ¬ (9223372036854775807 < sa.size + sx.size) := by omega
      go_wp2_with fail
      go_ret
      refine ⟨?_, HX2.out⟩
      rw [← HAP.out]
      rfl
  | true =>
    have HNN : Hid (n < 0) := Lib.hid (by rw [HNG.out])
    by_cases hd0 : d = 0
    · subst hd0
      have hmod2 : n.tmod 10 = 0 := hmod
      clear hmod
      obtain ⟨x, hx⟩ : ∃ x, x = UInt8.ofNat (48 + 0) := ⟨_, rfl⟩
      have hxv : (48 : Int) = (x.toNat : Int) := by rw [hx, UInt8.toNat_ofNat']; omega
      have hr0 := Rd.new w #[.int .u8 (48)] 5
      have hr : Rd (w.alloc (.cells #[.int .u8 (48)] 5)) (some ⟨w.heap.size, 0, none⟩) ([x].map byteV) := by
        have e : ([x].map byteV) = (#[Value.int .u8 (48)] : Array Value).toList := by rw [hxv]; rfl
        rw [e]; exact hr0
      have hback := back (c := 1) (l := [x]) (n := 1) rfl hr
      have hx1 := Ext.alloc w (.cells #[.int .u8 (48)] 5)
      obtain ⟨sx, hsx⟩ : ∃ sx : ByteArray, (⟨[x].toArray⟩ : ByteArray) = sx := ⟨_, rfl⟩
      have hsz : sx.size = 1 := by rw [← hsx]; rfl
      have hsb : sx = bsv [x] := hsx.symm
      rw [hsx] at hback
      have HSB := Lib.hid hsb
      have HXX := Lib.hid hx
      clear hr0 hr hsx hsb hxv hx
      go_upto_region 5 with fail
      generalize w.alloc (.cells #[.int .u8 (48)] 5) = w1 at hback hx1 ⊢
      have HX1 := Lib.hid hx1
      clear hback hx1
      by_cases hM : N < 10
      · have hdv : wrap64 (n.tdiv 10) = 0 := by rw [HDV.out, show N / 10 = 0 by omega]; simp [sgn, wrap64]
        have hdec : decL n = if true = true then [45, x] else [x] := by
          rw [HN.out, decL_last hM (by intro h; first | exact absurd h (by decide) | (have h1 := HNN.out; rw [HN.out] at h1; simp [sgn] at h1; omega)), show N = 0 by have := HD.out; omega, ← HXX.out]
        have HDEC := Lib.hid hdec
        have hb1 : ¬ (9223372036854775807 < 1 + sx.size) := by omega
        clear hdec hM
        go_upto_region 7 with fail
        have hnn := HNN.out
        go_wp2_with fail
        go_ret
        refine ⟨?_, HX1.out⟩
        rw [HDEC.out, HSB.out]
        first | rfl | (rw [if_pos rfl]; rfl)
      · obtain ⟨mq, hmq⟩ : ∃ mq, mq = sgn true (N / 10) := ⟨_, rfl⟩
        have hq : wrap64 (n.tdiv 10) = mq := by
          rw [HDV.out, hmq, ← IntWalk.i64_left]
          exact IntWalk.i64_in _ (by simp [sgn]; omega)
        have hdvB : (mq == 0) = false := by rw [hmq]; simp [sgn]; omega
        have hdvC : (mq != 0) = true := by simp [bne, hdvB]
        have hdec : decL n = decL mq ++ [x] := by rw [HN.out, decL_step hM, hmq, HXX.out, HD.out]
        have HDEC := Lib.hid hdec
        have hmr : -9223372036854775808 ≤ mq ∧ mq ≤ 9223372036854775807 := by rw [hmq]; simp [sgn]; omega
        have hma : mq.natAbs < k := by rw [hmq]; have := HNA.out; have := HKK.out; simp [sgn]; omega
        have HIH := Lib.hid (ih mq w1 hma hmr.1 hmr.2)
        have hsz2 : (bsv (decL mq)).size ≤ 20 := by rw [bsv_size]; exact decL_size2 hmr.1 hmr.2
        clear hdec hmq hM hma hmr
        go_wp2_with fail
        refine HIH.out.mono ?_
        rintro e w2 ⟨rfl, hx2⟩
        have HX2 := Lib.hid (HX1.out.trans hx2)
        have hap : bsv (decL mq) ++ sx = bsv (decL n) := by rw [HSB.out, bsv_app, ← HDEC.out]
        have HAP := Lib.hid hap
        clear hx2 hap
        generalize bsv (decL mq) = sa at hsz2 HAP ⊢
        have hb1 : ¬ (9223372036854775807 < sa.size + sx.size) := by omega
        go_wp2_with fail
        go_ret
        refine ⟨?_, HX2.out⟩
        rw [← HAP.out]
        rfl
    · have hmod2 : n.tmod 10 = -(d : Int) := hmod
      have hnl : -(d : Int) < 0 := by omega
      have hnl2 : 0 < d := by omega
      clear hmod
      obtain ⟨x, hx⟩ : ∃ x, x = UInt8.ofNat (48 + d) := ⟨_, rfl⟩
      have hxv : (48 + (d : Int) : Int) = (x.toNat : Int) := by rw [hx, UInt8.toNat_ofNat']; omega
      have hr0 := Rd.new w #[.int .u8 (48 + (d : Int))] 5
      have hr : Rd (w.alloc (.cells #[.int .u8 (48 + (d : Int))] 5)) (some ⟨w.heap.size, 0, none⟩) ([x].map byteV) := by
        have e : ([x].map byteV) = (#[Value.int .u8 (48 + (d : Int))] : Array Value).toList := by rw [hxv]; rfl
        rw [e]; exact hr0
      have hback := back (c := 1) (l := [x]) (n := 1) rfl hr
      have hx1 := Ext.alloc w (.cells #[.int .u8 (48 + (d : Int))] 5)
      obtain ⟨sx, hsx⟩ : ∃ sx : ByteArray, (⟨[x].toArray⟩ : ByteArray) = sx := ⟨_, rfl⟩
      have hsz : sx.size = 1 := by rw [← hsx]; rfl
      have hsb : sx = bsv [x] := hsx.symm
      rw [hsx] at hback
      have HSB := Lib.hid hsb
      have HXX := Lib.hid hx
      clear hr0 hr hsx hsb hxv hx
      go_upto_region 5 with fail
      generalize w.alloc (.cells #[.int .u8 (48 + (d : Int))] 5) = w1 at hback hx1 ⊢
      have HX1 := Lib.hid hx1
      clear hback hx1
      by_cases hM : N < 10
      · have hdv : wrap64 (n.tdiv 10) = 0 := by rw [HDV.out, show N / 10 = 0 by omega]; simp [sgn, wrap64]
        have hdec : decL n = if true = true then [45, x] else [x] := by
          rw [HN.out, decL_last hM (by intro h; first | exact absurd h (by decide) | (have h1 := HNN.out; rw [HN.out] at h1; simp [sgn] at h1; omega)), show N = d by have := HD.out; omega, ← HXX.out]
        have HDEC := Lib.hid hdec
        have hb1 : ¬ (9223372036854775807 < 1 + sx.size) := by omega
        clear hdec hM
        go_upto_region 7 with fail
        have hnn := HNN.out
        go_wp2_with fail
        go_ret
        refine ⟨?_, HX1.out⟩
        rw [HDEC.out, HSB.out]
        first | rfl | (rw [if_pos rfl]; rfl)
      · obtain ⟨mq, hmq⟩ : ∃ mq, mq = sgn true (N / 10) := ⟨_, rfl⟩
        have hq : wrap64 (n.tdiv 10) = mq := by
          rw [HDV.out, hmq, ← IntWalk.i64_left]
          exact IntWalk.i64_in _ (by simp [sgn]; omega)
        have hdvB : (mq == 0) = false := by rw [hmq]; simp [sgn]; omega
        have hdvC : (mq != 0) = true := by simp [bne, hdvB]
        have hdec : decL n = decL mq ++ [x] := by rw [HN.out, decL_step hM, hmq, HXX.out, HD.out]
        have HDEC := Lib.hid hdec
        have hmr : -9223372036854775808 ≤ mq ∧ mq ≤ 9223372036854775807 := by rw [hmq]; simp [sgn]; omega
        have hma : mq.natAbs < k := by rw [hmq]; have := HNA.out; have := HKK.out; simp [sgn]; omega
        have HIH := Lib.hid (ih mq w1 hma hmr.1 hmr.2)
        have hsz2 : (bsv (decL mq)).size ≤ 20 := by rw [bsv_size]; exact decL_size2 hmr.1 hmr.2
        clear hdec hmq hM hma hmr
        go_wp2_with fail
        refine HIH.out.mono ?_
        rintro e w2 ⟨rfl, hx2⟩
        have HX2 := Lib.hid (HX1.out.trans hx2)
        have hap : bsv (decL mq) ++ sx = bsv (decL n) := by rw [HSB.out, bsv_app, ← HDEC.out]
        have HAP := Lib.hid hap
        clear hx2 hap
        generalize bsv (decL mq) = sa at hsz2 HAP ⊢
        have hb1 : ¬ (9223372036854775807 < sa.size + sx.size) := by omega
        go_wp2_with fail
        go_ret
        refine ⟨?_, HX2.out⟩
        rw [← HAP.out]
        rfl
theorem digits_any (n : Int) (w : World) (h1 : -9223372036854775808 ≤ n) (h2 : n ≤ 9223372036854775807) : Calls Try.prog 51 #[.int .i64 n] w fun e w' => e = .returned (.string (bsv (decL n))) ∧ Ext w w' := digits_all (n.natAbs + 1) n w (by omega) h1 h2
theorem crlf_toList : (⟨#[13, 10]⟩ : ByteArray).toList = crlf := toList_mk [13, 10]
/-- A sign, a number, the end of a line. -/
theorem rline_any (a : ByteArray) (n : Int) (w : World) (ha : a.size ≤ 1000) (h1 : -9223372036854775808 ≤ n) (h2 : n ≤ 9223372036854775807) :
    Calls Try.prog 37 #[.string a, .int .i64 n] w fun e w' => e = .returned (.string (bsv (a.toList ++ decL n ++ crlf))) ∧ Ext w w' := by
  have hd := decL_size2 h1 h2
  have hz : (bsv (decL n)).size ≤ 20 := by rw [bsv_size]; exact hd
  have hF : a ++ bsv (decL n) ++ ⟨#[13, 10]⟩ = bsv (a.toList ++ decL n ++ crlf) := bytes_ext (by rw [toList_append2, toList_append2, bsv_list, bsv_list, crlf_toList])
  have HF := Lib.hid hF
  have HD := Lib.hid (digits_any n w h1 h2)
  clear hF hd h1 h2
  go_enter Try.func37, Try.ntmps37
  go_wp2_with fail
  refine HD.out.mono ?_
  rintro e w1 ⟨rfl, hx⟩
  have HX := Lib.hid hx
  clear hx HD
  generalize bsv (decL n) = sa at hz HF ⊢
  have hb1 : ¬ (9223372036854775807 < a.size + sa.size) := by omega
  have hb2 : ¬ (9223372036854775807 < a.size + sa.size + 2) := by omega
  go_wp2_with fail
  go_ret
  refine ⟨?_, HX.out⟩
  rw [← HF.out]
  rfl
theorem frameB_bad {ws : List ByteArray} (h : ¬ goodW ws) : frameB ws = ⟨#[]⟩ := if_neg h
theorem bulkL_parts (x : ByteArray) : bulkL x.toList = [36] ++ decL (x.size : Int) ++ crlf ++ x.toList ++ crlf := by
  unfold bulkL
  rw [size_list]
  simp
set_option maxHeartbeats 2000000 in
theorem rframe_any (v : Value) (ws : List ByteArray) (w : World) (hv : Txt w v ws) :
    Calls Try.prog 20 #[v] w fun e w' => e = .returned (.string (frameB ws)) ∧ Ext w w' := by
  obtain ⟨A, n, c, rfl, hn, hnc, hcm, hr⟩ := hv
  have HN := Lib.hid hn
  have HR := Lib.hid hr
  by_cases h64 : n ≤ 64
  · have h64B : decide ((64 : Int) < (n : Int)) = false := decide_eq_false (by omega)
    have hA0 : bsv ((⟨#[42]⟩ : ByteArray).toList ++ decL (n : Int) ++ crlf) = bsv (headL n) := by rw [show (⟨#[42]⟩ : ByteArray).toList = [42] from toList_mk [42]]; rfl
    have HA := Lib.hid hA0
    clear hn hr hA0
    go_enter Try.func20, Try.ntmps20
    go_wp2_with fail
    refine (rline_any ⟨#[42]⟩ (n : Int) w (by show 1 ≤ _; omega) (by omega) (by omega)).mono ?_
    rintro e w2 ⟨rfl, hx2⟩
    rw [HA.out]
    have HX2 := Lib.hid hx2
    clear hx2
    go_wp2_with fail
    go_loopw [3, 4] (fun sv iv wr => ∃ k : Nat, k ≤ n ∧ iv = .int .i64 (k : Int) ∧ sv = .string (bsv (headL n ++ bodyL (ws.take k))) ∧ (∀ x ∈ ws.take k, x.size ≤ 512) ∧ Ext w wr) (fun _ iv _ => n - (intOf iv).toNat)
    case atStart => exact ⟨0, by omega, rfl, by simp [bodyL], by simp, HX2.out⟩
    case round =>
      obtain ⟨k, hk, rfl, rfl, hall, hx⟩ := hrel
      have HALL := Lib.hid hall
      have HX := Lib.hid hx
      clear hall hx HX2
      by_cases hkn : k < n
      · have hkI : (k : Int) < (n : Int) := by omega
        have hkJ : (0 : Int) ≤ (k : Int) := by omega
        have hlm := HN.out
        obtain ⟨x, hxk⟩ : ∃ x, ws[k]? = some x := ⟨_, List.getElem?_eq_getElem (by omega)⟩
        have hrw := HR.out.ext HX.out
        obtain ⟨ad, rfl, hcell⟩ := hrw.some_ (by rw [List.length_map]; omega)
        have d0 := hcell k (.string x) (by rw [List.getElem?_map, hxk]; rfl)
        have HC := Lib.hid (fun wz (hz : Ext wr wz) => hz.cell d0)
        have HXK := Lib.hid hxk
        clear hcell hxk hlm hrw
        by_cases hx5 : x.size ≤ 512
        · have h5B : decide ((512 : Int) < (x.size : Int)) = false := decide_eq_false (by omega)
          have h5C : decide (512 < x.size) = false := decide_eq_false (by omega)
          have hz2 : (bsv (headL n ++ bodyL (ws.take k))).size ≤ 40000 := by
            have h1 := headL_len n (by omega)
            have h2 := bodyL_len (ws.take k) HALL.out
            rw [List.length_take] at h2
            rw [bsv_size, List.length_append]
            omega
          obtain ⟨sb, hsb⟩ : ∃ sb, bsv ((⟨#[36]⟩ : ByteArray).toList ++ decL (x.size : Int) ++ crlf) = sb := ⟨_, rfl⟩
          have hz1 : sb.size ≤ 30 := by
            have := decL_size2 (n := (x.size : Int)) (by omega) (by omega)
            rw [← hsb, bsv_size, show (⟨#[36]⟩ : ByteArray).toList = [36] from toList_mk [36]]
            simp [crlf]
            omega
          have hap : bsv (headL n ++ bodyL (ws.take k)) ++ sb ++ x ++ ⟨#[13, 10]⟩ = bsv (headL n ++ bodyL (ws.take (k + 1))) := bytes_ext (by
            rw [bodyL_snoc HXK.out, toList_append2, toList_append2, toList_append2, bsv_list, bsv_list, crlf_toList, ← hsb, bsv_list, bulkL_parts, show (⟨#[36]⟩ : ByteArray).toList = [36] from toList_mk [36]]
            simp)
          have HSB := Lib.hid hsb
          have HAP := Lib.hid hap
          clear hap hsb
          generalize bsv (headL n ++ bodyL (ws.take k)) = sa at hz2 HAP ⊢
          have hb1 : ¬ (9223372036854775807 < sa.size + sb.size) := by omega
          have hb2 : ¬ (9223372036854775807 < (sa ++ sb : ByteArray).size + x.size) := by rw [ByteArray.size_append]; omega
          have hb3 : ¬ (9223372036854775807 < sa.size + sb.size + x.size) := by omega
          have hb4 : ¬ (9223372036854775807 < sa.size + sb.size + x.size + 2) := by omega
          go_upto_region 9 with fail
          go_region_held3 (fun wz => wz.cell? (ad.add k) = some (.string x)) (first | assumption | exact HC.out _ hx5w) (first
            | (go_at_call 37
               refine (rline_any ⟨#[36]⟩ (x.size : Int) wr.drew (by show 1 ≤ _; omega) (by omega) (by omega)).mono ?_
               rintro e w3 ⟨rfl, hx3⟩
               rw [HSB.out]
               have HX3 := Lib.hid ((Ext.drew wr).trans hx3)
               have hx5w := HX3.out
               clear hx3))
          go_wp2_with fail
          go_roundw
          case rel => exact ⟨k + 1, by omega, by go_num, by rw [← HAP.out], fun y hy => by
            rw [List.take_add_one, HXK.out] at hy
            rcases List.mem_append.1 hy with hy | hy
            · exact HALL.out y hy
            · simp at hy; subst hy; exact hx5, HX.out.trans HX3.out⟩
          case measure => simp [intOf]; omega
        · have h5B : decide ((512 : Int) < (x.size : Int)) = true := decide_eq_true (by omega)
          have h5C : decide (512 < x.size) = true := decide_eq_true (by omega)
          have hbad : frameB ws = ⟨#[]⟩ := if_neg (fun h => hx5 (h.2 x (List.mem_of_getElem? HXK.out)))
          have HB := Lib.hid hbad
          clear hbad
          go_wp2_with fail
          go_ret
          rw [HB.out]
          exact ⟨rfl, HX.out⟩
      · obtain rfl : k = n := by omega
        have hlm := HN.out
        have hg : goodW ws := ⟨by omega, by have := HALL.out; rwa [List.take_of_length_le (by omega)] at this⟩
        have hok : frameB ws = bsv (headL k ++ bodyL (ws.take k)) := by unfold frameB; rw [if_pos hg, List.take_of_length_le (by omega)]; unfold frameL; rw [hlm]; rfl
        have HB := Lib.hid hok
        clear hok hg
        generalize bsv (headL k ++ bodyL (ws.take k)) = sa at HB ⊢
        go_wp2_with fail
        go_ret
        rw [HB.out]
        exact ⟨rfl, HX.out⟩
  · have h64B : decide ((64 : Int) < (n : Int)) = true := decide_eq_true (by omega)
    have hbad : frameB ws = ⟨#[]⟩ := if_neg (fun h => by have := h.1; omega)
    rw [hbad]
    clear hn hr hbad
    go_enter Try.func20, Try.ntmps20
    go_wp2_with fail
    go_ret
    exact ⟨rfl, Ext.refl _⟩
end Go.Proofs.Ytdbboooblbdihaa
