/- The walks of delta's Encode and Bits. -/
import Derived.Test.YtpdebandcmhbcaaDelQ
import Derived.Test.YtpdebandcmhbcaaDelV
import Derived.Test.YtpdebandcmhbcaaRow
import Derived.Test.YtpdebandcmhbcaaBitR
import Derived.Deep.RegionHeld3
namespace Go.Proofs.Ytpdebandcmhbcaa
open Go.RowKit Bit
set_option linter.unusedVariables false

theorem i64_wrap64 (x : Int) : IntKind.i64.wrap x = wrap64 x := IntWalk.i64_left x
theorem smp_cells {w : World} {ad : Addr} {l : List Smp} {k : Nat} {x : Smp} (h : Rd w (some ad) (l.flatMap smpC)) (hx : l[k]? = some x) :
    w.cell? (ad.add (k * 2)) = some (.int .i64 x.1) ∧ w.cell? ⟨(ad.add (k * 2)).block, (ad.add (k * 2)).off + 1, none⟩ = some (.int .i64 x.2) :=
  ⟨row_cell smpC_len h k 0 hx rfl, row_field smpC_len h k 1 (by decide) hx rfl⟩
set_option maxHeartbeats 4000000 in
theorem enc_any (v : Value) (l : List Smp) (w : World) (h : Row smpC w v l) (hok : ∀ x ∈ l, SmpOk x) (hlen : l.length ≤ 100000) :
    Calls Try.prog 13 #[v] w fun e w' => ∃ s : ByteArray, e = .returned (.tuple #[.string s, .int .i64 ((encB l).length : Int)]) ∧ Packed (encB l) s.toList ∧ Ext w w' := by
  obtain ⟨A, n, c, rfl, hn, hnc, hc, hr⟩ := h
  have hc' : c ≤ 9223372036854775807 := by simpa [maxLen] using hc
  have HR := Lib.hid hr
  have HN := Lib.hid hn
  have HOK := Lib.hid hok
  clear hr hn hok hc
  have hn1 : n ≤ 100000 := by rw [← HN.out]; exact hlen
  go_enter Try.func13, Try.ntmps13
  go_wp2_with fail
  have HW0 := Lib.hid (Wr.new w w.heap.size (Nat.le_refl _))
  have HX0 := Lib.hid (Ext.alloc w (.cells #[.slice none 0 0, .int .i64 0] 28))
  generalize w.alloc (.cells #[.slice none 0 0, .int .i64 0] 28) = w1 at HW0 HX0 ⊢
  go_loopw [5, 13] (fun s i wr => ∃ (k : Nat) (step : Int) (W : List Bool), k ≤ n ∧ i = .int .i64 (k : Int) ∧ s = .int .i64 step ∧ EncAt l k step W ∧ Wr w.heap.size wr w.heap.size W ∧ Ext w wr) (fun _ i _ => n - (intOf i).toNat)
  case atStart => exact ⟨0, 0, [], by omega, rfl, rfl, EncAt.start l, HW0.out, HX0.out⟩
  case round =>
    obtain ⟨k, step, W, hk, rfl, rfl, hat, hw, hx⟩ := hrel
    have HAT := Lib.hid hat
    have HW := Lib.hid hw
    have HX := Lib.hid hx
    have HL := Lib.hid hat.len
    clear hat hw hx
    by_cases hkn : k < n
    · obtain ⟨ad, rfl⟩ : ∃ ad, A = some ad := row_some HR.out smpC_len (by decide) (by have := HN.out; omega)
      obtain ⟨x, hq⟩ : ∃ q, l[k]? = some q := ⟨_, List.getElem?_eq_getElem (by have := HN.out; omega)⟩
      have HC := Lib.hid (fun wz (hw : Ext w wz) => smp_cells (HR.out.ext hw) hq)
      have HSO := Lib.hid (HOK.out x (List.mem_of_getElem? hq))
      have HQ := Lib.hid hq
      clear hq
      obtain ⟨t, v⟩ := x
      obtain ⟨c0, c1⟩ := HC.out wr HX.out
      have hb := heap_alloc_new wr (.cells #[.int .i64 t, .int .i64 v] 59 (0, 0))
      have HX2 := Lib.hid (HX.out.trans (Ext.alloc wr (.cells #[.int .i64 t, .int .i64 v] 59)))
      have HW2 := Lib.hid (HW.out.ext (Ext.alloc wr (.cells #[.int .i64 t, .int .i64 v] 59)))
      obtain ⟨v0, hv0⟩ : ∃ v0, v0 = wr.alloc (.cells #[.int .i64 t, .int .i64 v] 59) := ⟨_, rfl⟩
      obtain ⟨p, hp⟩ : ∃ p, p = wr.heap.size := ⟨_, rfl⟩
      rw [← hv0] at HX2 HW2 hb
      rw [← hp] at hb
      have HB := Lib.hid hb
      have HV0 := Lib.hid hv0
      have HP := Lib.hid hp
      clear hb hv0 hp HW HX
      rcases Nat.eq_zero_or_pos k with hk0 | hk0
      · have hz : ((k : Int) == 0) = true := by rw [hk0]; rfl
        have hat0 := HAT.out
        have hq0 := HQ.out
        rw [hk0] at hat0 hq0
        obtain ⟨e1, e2, hat2⟩ := hat0.first hq0
        have HK0 := Lib.hid hk0
        have HAT2 := Lib.hid hat2
        clear hat2 HAT hat0 hq0 hk0
        subst e1 e2
        have hu1 := u64N_wrap t
        have hu2 := u64N_wrap v
        go_wp2_with fail
        rw [← HV0.out, ← HP.out]
        have hb0 := heap_cell HB.out 0
        have hb1 := heap_cell HB.out 1
        clear c0 c1
        go_wp2_with fail
        clear hb0 hb1
        refine (put_ok w.heap.size w.heap.size [] (u64N t) 64 v0 HW2.out (by decide) (u64N_lt t) (by simp) HX2.out.size).mono ?_
        rintro e v1 ⟨rfl, hw1, hc1⟩
        have HW3 := Lib.hid hw1
        have HX3 := Lib.hid (ext_own HX2.out hc1)
        have HB3 := Lib.hid (hc1.heap_type HB.out (by decide))
        clear hw1 hc1
        have hb1 := heap_cell HB3.out 1
        go_wp2_with fail
        clear hb1
        refine (put_ok w.heap.size w.heap.size _ (u64N v) 64 v1 HW3.out (by decide) (u64N_lt v) (by simp [length_bitsOf]) HX3.out.size).mono ?_
        rintro e v2 ⟨rfl, hw1, hc1⟩
        have HW4 := Lib.hid hw1
        have HX4 := Lib.hid (ext_own HX3.out hc1)
        clear hw1 hc1
        go_wp2_with fail
        go_roundw
        case rel => exact ⟨k + 1, 0, _, by omega, by go_num, rfl, by rw [HK0.out]; exact HAT2.out, HW4.out, HX4.out⟩
        case measure => simp [intOf]; omega
      · have hz : ((k : Int) == 0) = false := by simp; omega
        obtain ⟨i2, he2⟩ : ∃ i2, k - 1 = i2 := ⟨_, rfl⟩
        obtain ⟨⟨lt, lv⟩, hq2⟩ : ∃ q, l[i2]? = some q := ⟨_, List.getElem?_eq_getElem (by have := HN.out; omega)⟩
        have hi1 : (k : Int) - 1 = (i2 : Int) := by omega
        have hi2 : i2 < n := by omega
        have hi3 : (0 : Int) ≤ (i2 : Int) := by omega
        have hi4 : (i2 : Int) < (n : Int) := by omega
        have hi6 : IntKind.i64.wrap (i2 : Int) = (i2 : Int) := by simp only [IntKind.wrap, IntKind.bits, IntKind.signed]; simp; omega
        have hi7 : IntKind.i64.wrap (v - lv) = wrap64 (v - lv) := i64_wrap64 _
        have hi5 : IntKind.i64.wrap ((k : Int) - 1) = (i2 : Int) := by rw [hi1]; simp only [IntKind.wrap, IntKind.bits, IntKind.signed]; simp; omega
        have HAT2 := Lib.hid (HAT.out.next (by omega) HQ.out (by rw [he2]; exact hq2))
        have HC2 := Lib.hid (fun wz (hw : Ext w wz) => smp_cells (HR.out.ext hw) hq2)
        have HSL := Lib.hid (HOK.out _ (List.mem_of_getElem? hq2))
        obtain ⟨d0, d1⟩ := HC2.out v0 HX2.out
        have HI2 := Lib.hid he2
        clear he2 hq2 hk0 HAT
        dsimp only at d0 d1
        go_wp2_with fail
        rw [← HV0.out, ← HP.out]
        have hb0 := heap_cell HB.out 0
        have hb1 := heap_cell HB.out 1
        clear c0 c1
        go_wp2_with fail
        go_quiet (fail)
        go_wp2_with fail
        clear hb0 hb1 d0 d1
        refine (zig_any (wrap64 (wrap64 (t - lt) - step)) _ (wrap64_lo _) (wrap64_hi _)).mono ?_
        rintro e _ ⟨rfl, rfl⟩
        go_wp2_with fail
        refine (dput_any w.heap.size w.heap.size W _ _ (HW2.out.ext (Ext.drewN _ _)) (zigW_lt _) (by have := HL.out; omega) (Nat.le_trans HX2.out.size (Ext.drewN _ _).size)).mono ?_
        rintro e v1 ⟨rfl, hw1, hc1⟩
        have HW3 := Lib.hid hw1
        have HX3 := Lib.hid (ext_own (HX2.out.trans (Ext.drewN _ _)) hc1)
        have HB3 := Lib.hid (hc1.heap_type (show (v0.drewN _).heap[p]? = _ from HB.out) (by decide))
        clear hw1 hc1
        have b1 := heap_cell HB3.out 1
        obtain ⟨d0, d1⟩ := HC2.out v1 HX3.out
        clear d0
        go_wp2_with fail
        go_region_held3 (fun w' => w'.cell? ⟨p, 1, none⟩ = some (.int .i64 v) ∧ w'.cell? ⟨(ad.add (i2 * 2)).block, (ad.add (i2 * 2)).off + 1, none⟩ = some (.int .i64 lv)) (first | assumption | exact ⟨b1, d1⟩ | exact ⟨f1, g1⟩) (first
          | (go_at_call 29; refine (zig_any (wrap64 (v - lv)) _ (wrap64_lo _) (wrap64_hi _)).mono ?_; rintro e _ ⟨rfl, rfl⟩)
          | (go_at_call 11; refine (dput_any w.heap.size w.heap.size _ _ _ (HW3.out.ext (Ext.drewN _ _)) (zigW_lt _) (by have := HL.out; have := size_le (zigN (wrap64 (wrap64 (t - lt) - step))); rw [List.length_append, codeB_len]; omega) (Nat.le_trans HX3.out.size (Ext.drewN _ _).size)).mono ?_; rintro e v2 ⟨rfl, hw1, hc1⟩;
             have HW4 := Lib.hid hw1;
             have HX4 := Lib.hid (ext_own (HX3.out.trans (Ext.drewN _ _)) hc1);
             have f1 := heap_cell (hc1.heap_type (show (v1.drewN _).heap[p]? = _ from HB3.out) (by decide)) 1;
             have g1 := (HC2.out v2 HX4.out).2;
             clear hw1 hc1))
        go_wp2_with fail
        go_roundw
        case rel => exact ⟨k + 1, _, _, by omega, by go_num, rfl, HAT2.out, HW4.out, HX4.out⟩
        case measure => simp [intOf]; omega
    · have he : k = n := by omega
      have HE : Hid (W = encB l) := Lib.hid (by
        have := HAT.out
        rw [he, ← HN.out] at this
        exact this.done)
      subst he
      go_wp2_with fail
      refine (wbytes_any w.heap.size w.heap.size W wr HW.out (by have := HL.out; omega)).mono ?_
      rintro e _ ⟨s, rfl, hs, rfl⟩
      have HS := Lib.hid hs
      clear hs
      go_wp2_with fail
      refine (len_any w.heap.size w.heap.size W wr HW.out).mono ?_
      rintro e _ ⟨rfl, rfl⟩
      rw [HE.out]
      go_wp2_with fail
      go_ret2
      exact ⟨s, rfl, by rw [← HE.out]; exact HS.out, HX.out⟩
theorem dbits_any (v : Value) (l : List Smp) (w : World) (h : Row smpC w v l) (hok : ∀ x ∈ l, SmpOk x) (hlen : l.length ≤ 100000) :
    Calls Try.prog 19 #[v] w fun e w' => e = .returned (.int .i64 ((encB l).length : Int)) ∧ Ext w w' := by
  go_enter Try.func19, Try.ntmps19
  go_wp2_with fail
  refine (enc_any v l w h hok hlen).mono ?_
  rintro e w1 ⟨s, rfl, hs, hx⟩
  have HX := Lib.hid hx
  clear hs hx
  go_wp2_with fail
  go_ret
  exact ⟨rfl, HX.out⟩
end Go.Proofs.Ytpdebandcmhbcaa
