/- RespDead walked. -/
import Derived.Test.YtdbboooblbdihaaRsqF
import Derived.OwnWalk
namespace Go.Proofs.Ytdbboooblbdihaa
open Go.RowKit
set_option linter.unusedVariables false
set_option linter.unusedSectionVars false
set_option linter.unusedSimpArgs false
set_option maxRecDepth 100000



theorem frame_len {ws : List ByteArray} (h : goodW ws) : (frameB ws).size = (frameL ws).length := by rw [show frameB ws = bsv (frameL ws) from if_pos h, bsv_size]
def zs : List UInt8 := List.replicate 513 0
theorem zs_cells : (madeCells (Value.int .u8 0).cells (513 * 1)).toList = zs.map byteV := by kernel_rfl
theorem zs_len : zs.length = 513 := by simp [zs]
theorem make_zs (w : World) : ∃ w' sz, (Instr.makeSlice 22 (.int .i64 513) (.int .i64 513)).run Try.prog w = .ok (.slice (some ⟨w.heap.size, 0, none⟩) 513 513) w' ∧
    (convert 22 9 (.slice (some ⟨w.heap.size, 0, none⟩) 513 513)).run Try.prog w' = .ok (.string sz) w' ∧ sz.size = 513 ∧ Ext w w' := by
  obtain ⟨iu, hiu, hz3, hz4, hz5⟩ := info_parts Try.u8Info
  obtain ⟨w', hrun, hown, hgr⟩ := run_make_full (P := Try.prog) w w.heap.size 22 5 iu (.int .u8 0) 1 Try.underlying22 hiu hz3 hz4 .i64 .i64 513 (by rw [hz5]; decide) (by simp [maxLen]) (Nat.le_refl _)
  rw [zs_cells] at hown
  have hb := back (c := 513) (l := zs) (n := 513) zs_len (Rd.own hown)
  exact ⟨w', _, hrun, hb, by show zs.toArray.size = 513; rw [List.size_toArray]; exact zs_len, Ext.of_grown hgr (by simp)⟩
set_option maxHeartbeats 8000000 in
theorem respDead_any (s more : ByteArray) (w : World) (hs : s.size ≤ 9223372036854775807) (hm : more.size ≤ 9223372036854775807) : Calls Try.prog 7 #[.string s, .string more] w fun e w' => e = .returned (.bool true) ∧ Ext w w' := by
  by_cases h2 : s.size ≤ 2000
  · have h2B : decide ((2000 : Int) < (s.size : Int)) = false := decide_eq_false (by omega)
    have h2C : decide (2000 < s.size) = false := decide_eq_false (by omega)
    by_cases h5 : more.size ≤ 500
    · have h5B : decide ((500 : Int) < (more.size : Int)) = false := decide_eq_false (by omega)
      have h5C : decide (500 < more.size) = false := decide_eq_false (by omega)
      obtain ⟨l1, l2, l3, l4, l5⟩ := dead_law _ s.toList (Nat.le_refl _)
      have F1 := Lib.hid (fr_3 s)
      have hcn := rd_count s.toList
      rw [size_list] at l1 hcn
      obtain ⟨T, hT⟩ : ∃ T, rdAll s.toList = T := ⟨_, rfl⟩
      rw [hT] at l1 l2 l3 l4 l5 F1 hcn
      obtain ⟨cs, lr, d0⟩ := T
      dsimp only at l1 l2 l3 l4 l5 F1 hcn
      have L4 := Lib.hid l4
      have hlz := bsv_size lr
      have HL5 := Lib.hid l5
      have L2 := Lib.hid l2
      clear hT l2 l4 l5
      go_enter Try.func7, Try.ntmps7
      go_upto_region 4 with fail
      have hxp := Ext.alloc w (.cells #[.string ⟨#[]⟩, .bool false] 26)
      have hbp : PrsAt (w.alloc (.cells #[.string ⟨#[]⟩, .bool false] 26)) w.heap.size ⟨#[]⟩ false := heap_alloc_new w (.cells #[.string ⟨#[]⟩, .bool false] 26 (0, 0))
      generalize w.alloc (.cells #[.string ⟨#[]⟩, .bool false] 26) = w1 at hxp hbp ⊢
      obtain ⟨p, hp⟩ : ∃ p, p = w.heap.size := ⟨_, rfl⟩
      rw [← hp] at hbp ⊢
      have HP : Hid (w.heap.size ≤ p) := Lib.hid (by omega)
      have HX1 := Lib.hid hxp
      have HB1 := Lib.hid hbp
      clear hxp hbp hp
      go_wp2_with fail
      refine (feed_any p _ _ s w1 HB1.out (by show 0 + _ ≤ _; omega)).mono ?_
      rw [F1.out]
      rintro e w2 ⟨va, rfl, hca, hb2, hk2⟩
      have HX2 := Lib.hid (hk2.to_ext HX1.out (by simpa using HP.out))
      have hb2 : PrsAt w2 p (bsv lr) d0 := hb2
      have HB2 := Lib.hid hb2
      obtain ⟨xs, hrow, hxl, hxc⟩ := hca.r
      obtain ⟨Aa, na, ca, rfl, hna, hnc, hcm, hrd⟩ := hrow
      have hxl : xs.length = cs.length := hxl
      rw [hxl] at hna
      subst hna
      have HRD := Lib.hid hrd
      have HXC := Lib.hid (show ∀ (i : Nat) (x : CmdE) (c : Cmd), xs[i]? = some x → cs[i]? = some c → Txt w2 x.v c.ws ∧ x.e = c.e from hxc)
      have HXL := Lib.hid hxl
      clear hca hrd hxc hxl hk2 hb2 HX1 HB1 F1
      go_wp2_with fail
      go_loopw [7, 8, 9] (fun zv bv iv wr => ∃ k : Nat, k ≤ cs.length ∧ iv = .int .i64 (k : Int) ∧ zv = .int .i64 (lenC (cs.take k) : Int) ∧ bv = .int .i64 (badC (cs.take k) : Int) ∧ Ext w2 wr) (fun _ _ iv _ => cs.length - (intOf iv).toNat)
      case atStart => exact ⟨0, by omega, rfl, rfl, rfl, Ext.refl _⟩
      case round =>
        obtain ⟨k, hk, rfl, rfl, rfl, hx⟩ := hrel
        have HX := Lib.hid hx
        clear hx
        by_cases hkn : k < cs.length
        · have hkI : (k : Int) < (cs.length : Int) := by omega
          have hkJ : (0 : Int) ≤ (k : Int) := by omega
          obtain ⟨c, hck⟩ : ∃ c, cs[k]? = some c := ⟨_, List.getElem?_eq_getElem hkn⟩
          obtain ⟨x, hxk⟩ : ∃ x, xs[k]? = some x := ⟨_, List.getElem?_eq_getElem (by rw [HXL.out]; exact hkn)⟩
          obtain ⟨ht, he⟩ := HXC.out k x c hxk hck
          have hrw := HRD.out.ext HX.out
          obtain ⟨ad, rfl⟩ := row_some hrw cmdC_len (by decide) (by rw [HXL.out]; omega)
          obtain ⟨c0, c1⟩ := cmd_parts hrw hxk
          have ht2 := ht.ext HX.out
          have hln := lenC_snoc hck
          have hbn := badC_snoc hck
          have hlt := lenC_take cs k
          have hbt := badC_take cs k
          obtain ⟨cw, ce⟩ := c
          obtain ⟨xv, xe⟩ := x
          dsimp only at c0 c1 he ht2 hln hbn
          subst he
          obtain ⟨sA, sn, sc, rfl, hsn, _⟩ := id ht2
          have HT := Lib.hid ht2
          rcases HL5.out k _ hck with ⟨h0, hg⟩ | ⟨h0, hw, hi⟩
          · have h0 : xe = 0 := h0
            subst h0
            rw [if_pos rfl] at hln hbn
            have hg : goodW cw := hg
            have hfl := frame_len hg
            have HLN := Lib.hid hln
            have HBN := Lib.hid hbn
            obtain ⟨z, hz⟩ : ∃ z, lenC (cs.take k) = z := ⟨_, rfl⟩
            have HZ := Lib.hid hz
            have hfz : (frameB cw).size ≤ 2000 := by have := lenC_take cs (k + 1); rw [hln] at this; rw [hfl]; omega
            rw [hz] at hlt ⊢
            have hsn0 : ((0 : Int) != 0) = false := by decide
            clear ht hrw ht2 hln hbn hz hsn hxk hck
            go_wp2_with fail
            refine (frame_any _ cw wr HT.out).mono ?_
            rintro e w3 ⟨rfl, hx3⟩
            have HX3 := Lib.hid (HX.out.trans hx3)
            clear hx3
            go_wp2_with fail
            go_roundw
            case rel => exact ⟨k + 1, by omega, by go_num, by rw [HLN.out, HZ.out, ← hfl]; go_num, by rw [HBN.out]; rfl, HX3.out⟩
            case measure => simp [intOf]; omega
          · have h0 : ¬ xe = 0 := h0
            have hw : cw = [] := hw
            subst hw
            have hsn : sn = 0 := by rw [← hsn]; rfl
            subst hsn
            rw [if_neg h0] at hln hbn
            have HLN := Lib.hid hln
            have HBN := Lib.hid hbn
            have h0B : (xe != 0) = true := by simpa [bne] using h0
            obtain ⟨z, hz⟩ : ∃ z, badC (cs.take k) = z := ⟨_, rfl⟩
            have HZ := Lib.hid hz
            rw [hz] at hbt ⊢
            have hi : k + 1 = cs.length := hi
            have hiB : ((k : Int) != (cs.length : Int) - 1) = false := by rw [bne_eq_false_iff_eq]; omega
            have HI := Lib.hid hi
            clear ht hrw ht2 hln hbn hz hxk hck hi
            go_wp2_with fail
            go_roundw
            case rel => exact ⟨k + 1, by omega, by go_num, by rw [HLN.out]; rfl, by rw [HBN.out, HZ.out]; go_num, HX.out⟩
            case measure => simp [intOf]; omega
        · have hkI : ¬ (k : Int) < (cs.length : Int) := by omega
          obtain rfl : k = cs.length := by omega
          rw [List.take_length]
          have HBr : Hid (PrsAt wr p (bsv lr) d0) := Lib.hid ((Kp.of_ext (L := []) HX.out).heap HB2.out (by simp))
          obtain ⟨lf, hlf⟩ : ∃ lf, bsv lr = lf := ⟨_, rfl⟩
          rw [hlf] at HBr hlz
          have HLF := Lib.hid hlf
          obtain ⟨z, hz⟩ : ∃ z, lenC cs = z := ⟨_, rfl⟩
          obtain ⟨y, hy⟩ : ∃ y, badC cs = y := ⟨_, rfl⟩
          rw [hz] at l1
          rw [hz, hy]
          have hle : (z : Int) + (lf.size : Int) ≤ (s.size : Int) := by omega
          have HXR := Lib.hid (HX2.out.trans HX.out)
          have hlfz : lf.size ≤ 2000 := by omega
          have HLZ := Lib.hid hlz
          clear hlz
          cases d0 with
          | true =>
            have hb1 : y = 1 := by rw [← hy]; exact L2.out.1 rfl
            have hlf0 : lf.size = 0 := by rw [HLZ.out, L4.out rfl]; rfl
            have HZ0 := Lib.hid hlf0
            have hlfB : ((lf.size : Int) == 0) = true := by rw [beq_iff_eq]; omega
            have hle2 : (z : Int) + 0 ≤ (s.size : Int) := by omega
            subst hb1
            clear hz hy hlf l1 l3 hlf0
            go_wp2_with fail
            refine (dead_any p lf true wr HBr.out).mono ?_
            rintro e w3 ⟨rfl, q3, rfl⟩
            have hx3 := Ext.drewN q3 wr
            generalize wr.drewN q3 = w3 at hx3 ⊢
            have HX3 := Lib.hid (HXR.out.trans hx3)
            have HB3 : Hid (PrsAt w3 p _ _) := Lib.hid ((Kp.of_ext (L := []) hx3).heap HBr.out (by simp))
            clear hx3 HBr HXR
            go_wp2_with fail
            refine (left_any p lf true w3 HB3.out).mono ?_
            rintro e _ ⟨rfl, rfl⟩
            go_wp2_with fail
            refine (feed_any p lf true more w3 HB3.out (by omega)).mono ?_
            rw [show feedL lf true more = ([], lf, true) from if_pos rfl]
            rintro e w4 ⟨vb, rfl, hcb, hb4, hk4⟩
            have HX4 := Lib.hid (hk4.to_ext HX3.out (by simpa using HP.out))
            obtain ⟨A4, c4, rfl⟩ := cmdsAt_slice hcb
            have HB4 := Lib.hid hb4
            clear hcb hb4 hk4 HX3 HB3
            go_wp2_with fail
            refine (left_any p lf true w4 HB4.out).mono ?_
            rintro e _ ⟨rfl, rfl⟩
            obtain ⟨w5, sz, hmk, hcv, hsz, hx5⟩ := make_zs w4
            have HX5 := Lib.hid (HX4.out.trans hx5)
            have HSZ := Lib.hid hsz
            clear hx5 hsz
            go_wp2_with fail
            have ht6 : Txt (w5.alloc (.cells #[.string sz] 9)) (.slice (some ⟨w5.heap.size, 0, none⟩) 1 1) [sz] := ⟨_, _, _, rfl, rfl, by omega, by omega, by exact Rd.new w5 #[_] 9⟩
            have hx6 := Ext.alloc w5 (.cells #[.string sz] 9)
            refine (frame_any _ [sz] _ ht6).mono ?_
            rw [show frameB [sz] = ⟨#[]⟩ from if_neg (fun h => by have h1 := h.2 sz (by simp); have h2 := HSZ.out; omega)]
            rintro e w7 ⟨rfl, hx7⟩
            have HX7 := Lib.hid (HX5.out.trans (hx6.trans hx7))
            clear ht6 hx6 hx7 hmk hcv
            go_wp2_with fail
            refine (known_any _).mono ?_
            rintro e wk ⟨rfl, hxk⟩
            have HXK := Lib.hid ((HX7.out).trans hxk)
            clear hxk
            go_wp2_with fail
            go_ret
            exact ⟨rfl, HXK.out⟩
          | false =>
            have hb1 : ¬ y = 1 := by rw [← hy]; exact fun h => by have := L2.out.2 h; cases this
            have hbB : ((y : Int) == 1) = false := by rw [beq_eq_false_iff_ne]; omega
            have hy1 : y ≤ 1 := by omega
            obtain ⟨D, hD⟩ : ∃ D : List Cmd × ByteArray × Bool, feedL lf false more = D := ⟨_, rfl⟩
            have HD := Lib.hid hD
            clear hz hy hlf l1 l3 hD hb1
            go_wp2_with fail
            refine (dead_any p lf false wr HBr.out).mono ?_
            rintro e w3 ⟨rfl, q3, rfl⟩
            have hx3 := Ext.drewN q3 wr
            generalize wr.drewN q3 = w3 at hx3 ⊢
            have HX3 := Lib.hid (HXR.out.trans hx3)
            have HB3 : Hid (PrsAt w3 p _ _) := Lib.hid ((Kp.of_ext (L := []) hx3).heap HBr.out (by simp))
            clear hx3 HBr HXR
            go_wp2_with fail
            refine (left_any p lf false w3 HB3.out).mono ?_
            rintro e _ ⟨rfl, rfl⟩
            go_wp2_with fail
            refine (feed_any p lf false more w3 HB3.out (by omega)).mono ?_
            rw [HD.out]
            rintro e w4 ⟨vb, rfl, hcb, hb4, hk4⟩
            have HX4 := Lib.hid (hk4.to_ext HX3.out (by simpa using HP.out))
            obtain ⟨A4, c4, rfl⟩ := cmdsAt_slice hcb
            clear hcb hb4 hk4 HX3 HB3
            obtain ⟨w5, sz, hmk, hcv, hsz, hx5⟩ := make_zs w4
            have HX5 := Lib.hid (HX4.out.trans hx5)
            have HSZ := Lib.hid hsz
            clear hx5 hsz
            go_wp2_with fail
            have ht6 : Txt (w5.alloc (.cells #[.string sz] 9)) (.slice (some ⟨w5.heap.size, 0, none⟩) 1 1) [sz] := ⟨_, _, _, rfl, rfl, by omega, by omega, by exact Rd.new w5 #[_] 9⟩
            have hx6 := Ext.alloc w5 (.cells #[.string sz] 9)
            refine (frame_any _ [sz] _ ht6).mono ?_
            rw [show frameB [sz] = ⟨#[]⟩ from if_neg (fun h => by have h1 := h.2 sz (by simp); have h2 := HSZ.out; omega)]
            rintro e w7 ⟨rfl, hx7⟩
            have HX7 := Lib.hid (HX5.out.trans (hx6.trans hx7))
            clear ht6 hx6 hx7 hmk hcv
            go_wp2_with fail
            refine (known_any _).mono ?_
            rintro e wk ⟨rfl, hxk⟩
            have HXK := Lib.hid ((HX7.out).trans hxk)
            clear hxk
            go_wp2_with fail
            go_ret
            exact ⟨rfl, HXK.out⟩
    · have h5B : decide ((500 : Int) < (more.size : Int)) = true := decide_eq_true (by omega)
      have h5C : decide (500 < more.size) = true := decide_eq_true (by omega)
      go_enter Try.func7, Try.ntmps7
      go_wp2_with fail
      refine (known_any _).mono ?_
      rintro e wk ⟨rfl, hxk⟩
      have HXK := Lib.hid ((Ext.refl w).trans hxk)
      clear hxk
      go_wp2_with fail
      go_ret
      exact ⟨rfl, HXK.out⟩
  · have h2B : decide ((2000 : Int) < (s.size : Int)) = true := decide_eq_true (by omega)
    have h2C : decide (2000 < s.size) = true := decide_eq_true (by omega)
    go_enter Try.func7, Try.ntmps7
    go_wp2_with fail
    refine (known_any _).mono ?_
    rintro e wk ⟨rfl, hxk⟩
    have HXK := Lib.hid ((Ext.refl w).trans hxk)
    clear hxk
    go_wp2_with fail
    go_ret
    exact ⟨rfl, HXK.out⟩
end Go.Proofs.Ytdbboooblbdihaa
