/- The walk of delta's next, behind the first. -/
import Derived.Test.YtpdebandcmhbcaaDelN
namespace Go.Proofs.Ytpdebandcmhbcaa
open Go.RowKit Bit
set_option linter.unusedVariables false

def mid1 (s : ByteArray) (n : Nat) (d : DS) : DS := ⟨(codedS s n d).2.k, { (codedS s n d).2.x with step := wrap64 (d.x.step + (codedS s n d).1) }⟩
theorem coded_keeps (s : ByteArray) (n : Nat) (d : DS) : (codedS s n d).2.x.t = d.x.t ∧ (codedS s n d).2.x.v = d.x.v ∧ (codedS s n d).2.x.step = d.x.step := by
  unfold codedS
  split <;> exact ⟨rfl, rfl, rfl⟩
section
variable {B p g : Nat} {s : ByteArray} {n : Nat} {w w0 : World} {d : DS}
theorem at_keep {i : Nat} {y : Value} {x : SV} (h : At B p g s n w d) (hx : (w.setCell ⟨p, i, none⟩ y).heap[p]? = some (.cells #[.pointer (some ⟨g, 0, none⟩), .int .i64 x.t, .int .i64 x.v, .int .i64 x.step, .int .i64 x.e] 74 (0, 0))) : At B p g s n (w.setCell ⟨p, i, none⟩ y) ⟨d.k, x⟩ :=
  ⟨hx, (Kp.store (L := [p]) p i _ (by simp)).heap h.rdr (by simpa using at_ne h), h.le⟩
theorem at_step (y : Int) (h : At B p g s n w d) : At B p g s n (w.setCell ⟨p, 3, none⟩ (.int .i64 y)) ⟨d.k, { d.x with step := y }⟩ := at_keep h (by
  have := heap_setCell_same w p 3 _ _ (.int .i64 y) h.src
  simpa using this)
theorem at_t (y : Int) (h : At B p g s n w d) : At B p g s n (w.setCell ⟨p, 1, none⟩ (.int .i64 y)) ⟨d.k, { d.x with t := y }⟩ := at_keep h (by
  have := heap_setCell_same w p 1 _ _ (.int .i64 y) h.src
  simpa using this)
theorem at_v (y : Int) (h : At B p g s n w d) : At B p g s n (w.setCell ⟨p, 2, none⟩ (.int .i64 y)) ⟨d.k, { d.x with v := y }⟩ := at_keep h (by
  have := heap_setCell_same w p 2 _ _ (.int .i64 y) h.src
  simpa using this)
theorem at_chg (i : Nat) (y : Value) (h : At B p g s n w d) (hp : B ≤ p) (hc : Chg B [77, 74] w0 w) : Chg B [77, 74] w0 (w.setCell ⟨p, i, none⟩ y) := hc.trans (Chg.store _ h.src (by simp) hp)
theorem at_box (i b : Nat) (y : Value) {o : Obj} (hb : w.heap[b]? = some o) (hbp : b ≠ p) : (w.setCell ⟨p, i, none⟩ y).heap[b]? = some o := (Kp.store (L := [p]) p i _ (by simp)).heap hb (by simpa using hbp)
end
set_option maxHeartbeats 2000000 in
theorem next_later (B p g : Nat) (s : ByteArray) (n : Nat) (w : World) (d : DS) (h : At B p g s n w d) (m : Dm B p g s n) :
    Calls Try.prog 38 #[.pointer (some ⟨p, 0, none⟩), .bool false] w fun e w' => e = .returned (.agg #[.int .i64 (laterS s n d).x.t, .int .i64 (laterS s n d).x.v]) ∧ At B p g s n w' (laterS s n d) ∧ Chg B [77, 74] w w' := by
  have H := Lib.hid h
  have HN := Lib.hid (at_ne h)
  clear h
  go_enter Try.func38, Try.ntmps38
  go_wp2_with fail
  have hb := heap_alloc_new w (.cells #[.int .i64 0, .int .i64 0] 59 (0, 0))
  have hxa := Ext.alloc w (.cells #[.int .i64 0, .int .i64 0] 59)
  generalize w.alloc (.cells #[.int .i64 0, .int .i64 0] 59) = w1 at hb hxa ⊢
  obtain ⟨b, hbe⟩ : ∃ b, b = w.heap.size := ⟨_, rfl⟩
  rw [← hbe] at hb
  rw [← hbe]
  have hbp : b ≠ p := by
    have := (Array.getElem?_eq_some_iff.1 H.out.src).1
    omega
  have HBP := Lib.hid hbp
  have HB := Lib.hid hb
  have HX := Lib.hid hxa
  have HBE := Lib.hid hbe
  have HA1 := Lib.hid (H.out.ext hxa)
  have c3 := heap_cell HA1.out.src 3
  have c1 := heap_cell HA1.out.src 1
  have c2 := heap_cell HA1.out.src 2
  obtain ⟨kt, kv, ks⟩ := coded_keeps s n d
  have hwr : IntKind.i64.wrap (d.x.step + (codedS s n d).1) = wrap64 (d.x.step + (codedS s n d).1) := IntWalk.i64_left _
  clear hb hxa hbe hbp
  go_cut [4] from 20 (fun s4 wx => s4 = .pointer (some ⟨b, 0, none⟩) ∧ At B p g s n wx (mid1 s n d) ∧ wx.heap[b]? = some (.cells #[.int .i64 0, .int .i64 0] 59 (0, 0)) ∧ Chg B [77, 74] w wx)
  case first =>
    go_region_law (first
      | (go_simp; go_at_call 46; refine (codedS_any (HA1.out.ext (Ext.drewN _ _)) m).mono ?_; rintro e w2 ⟨rfl, ha, hc⟩;
         have d3 := heap_cell ha.src 3; have f3 := heap_frozen ha.src 3; have HB2 := Lib.hid (hc.heap_type HB.out (by decide));
         have HA2 := Lib.hid ha; have HC2 := Lib.hid ((Chg.of_ext (HX.out.trans (Ext.drewN _ _))).trans hc); clear ha hc))
    all_goals
      go_wp2_with fail
      go_meet
      exact ⟨rfl, at_step _ HA2.out, at_box _ _ _ HB2.out HBP.out, at_chg _ _ HA2.out m.hp HC2.out⟩
  case rest =>
    obtain ⟨rfl, ha, hb, hc⟩ := hcut
    have e1 : (mid1 s n d).x.t = d.x.t := kt
    have e3 : (mid1 s n d).x.step = wrap64 (d.x.step + (codedS s n d).1) := rfl
    have c1 := heap_cell ha.src 1
    have c3 := heap_cell ha.src 3
    have f1 := heap_frozen ha.src 1
    have hwt : IntKind.i64.wrap (d.x.t + wrap64 (d.x.step + (codedS s n d).1)) = wrap64 (d.x.t + wrap64 (d.x.step + (codedS s n d).1)) := IntWalk.i64_left _
    have HA3 := Lib.hid ha
    have HB3 := Lib.hid hb
    have HC3 := Lib.hid hc
    clear ha hb hc
    go_upto_region 6 with fail
    go_cut [4] from 29 (fun s4 wx => s4 = .pointer (some ⟨b, 0, none⟩) ∧ At B p g s n wx (midS s n d) ∧ wx.heap[b]? = some (.cells #[.int .i64 0, .int .i64 0] 59 (0, 0)) ∧ Chg B [77, 74] w wx)
    case first =>
      go_region_law (fail)
      all_goals
        go_wp2_with fail
        go_meet
        exact ⟨rfl, (at_t _ HA3.out).ext (Ext.drew _), (Kp.of_ext (L := []) (Ext.drew _)).heap (at_box _ _ _ HB3.out HBP.out) (by simp), (at_chg _ _ HA3.out m.hp HC3.out).trans (Chg.of_ext (Ext.drew _))⟩
    case rest =>
      obtain ⟨rfl, ha, hb, hc⟩ := hcut
      have e2 : (midS s n d).x.v = d.x.v := kv
      obtain ⟨jt, jv, js⟩ := coded_keeps s n (midS s n d)
      have c2 := heap_cell ha.src 2
      have hwv : IntKind.i64.wrap (d.x.v + (codedS s n (midS s n d)).1) = wrap64 (d.x.v + (codedS s n (midS s n d)).1) := IntWalk.i64_left _
      have HA4 := Lib.hid ha
      have HB4 := Lib.hid hb
      have HC4 := Lib.hid hc
      clear ha hb hc c1 c3 f1
      go_upto_region 7 with fail
      go_cut [4] from 42 (fun s4 wx => s4 = .pointer (some ⟨b, 0, none⟩) ∧ At B p g s n wx (laterS s n d) ∧ wx.heap[b]? = some (.cells #[.int .i64 0, .int .i64 0] 59 (0, 0)) ∧ Chg B [77, 74] w wx)
      case first =>
        go_region_law (first
          | (go_simp; go_at_call 46; refine (codedS_any (HA4.out.ext (Ext.drewN _ _)) m).mono ?_; rintro e w2 ⟨rfl, ha, hc⟩;
             have d3 := heap_cell ha.src 2; have f3 := heap_frozen ha.src 2; have HB5 := Lib.hid (hc.heap_type ((Kp.of_ext (L := []) (Ext.drewN _ _)).heap HB4.out (by simp)) (by decide));
             have HA5 := Lib.hid ha; have HC5 := Lib.hid ((HC4.out.trans (Chg.of_ext (Ext.drewN _ _))).trans hc); clear ha hc))
        all_goals
          go_wp2_with fail
          go_meet
          exact ⟨rfl, at_v _ HA5.out, at_box _ _ _ HB5.out HBP.out, at_chg _ _ HA5.out m.hp HC5.out⟩
      case rest =>
        obtain ⟨rfl, ha, hb, hc⟩ := hcut
        have e1 := heap_cell hb 0
        have e2 := heap_cell hb 1
        have g1 := heap_frozen hb 0
        have g2 := heap_frozen hb 1
        have hp1 := heap_cell ha.src 1
        have hp2 := heap_cell ha.src 2
        have HA6 := Lib.hid ha
        have HB6 := Lib.hid hb
        have HC6 := Lib.hid hc
        clear ha hb hc c2
        obtain ⟨T, hT⟩ : ∃ T, T = (laterS s n d).x.t := ⟨_, rfl⟩
        obtain ⟨V, hV⟩ : ∃ V, V = (laterS s n d).x.v := ⟨_, rfl⟩
        rw [← hT] at hp1
        rw [← hV] at hp2
        have HT := Lib.hid hT
        have HV := Lib.hid hV
        clear hT hV
        go_wp2_with fail
        have s1 := heap_setCell_same _ b 0 _ _ (.int .i64 T) HB6.out
        simp only [List.setIfInBounds_toArray, List.set_cons_zero] at s1
        have s2 := heap_setCell_same _ b 1 _ _ (.int .i64 V) s1
        simp only [List.setIfInBounds_toArray, List.set_cons_zero, List.set_cons_succ] at s2
        have hk5 : Kp [b] wc ((wc.setCell ⟨b, 0, none⟩ (.int .i64 T)).setCell ⟨b, 1, none⟩ (.int .i64 V)) := (Kp.store b 0 _ (by simp) : Kp [b] _ _).and (Kp.store b 1 _ (by simp))
        generalize (wc.setCell ⟨b, 0, none⟩ (.int .i64 T)).setCell ⟨b, 1, none⟩ (.int .i64 V) = w5 at s2 hk5 ⊢
        have q1 := heap_cell s2 0
        have q2 := heap_cell s2 1
        refine bodyPost_ret (v := .agg #[.int .i64 T, .int .i64 V]) (by simp [results, Try.results38, go_sem, q1, q2]) rfl ⟨by rw [HT.out, HV.out], ⟨?_, ?_, ?_⟩, ?_⟩
        · exact hk5.heap HA6.out.src (by simpa using HBP.out.symm)
        · exact hk5.heap HA6.out.rdr (by
            simp only [List.mem_singleton]
            intro e
            have := (Array.getElem?_eq_some_iff.1 H.out.rdr).1
            have := HBE.out
            omega)
        · exact HA6.out.le
        · refine ⟨hk5.os.trans HC6.out.os, hk5.tape.trans HC6.out.tape, hk5.output.trans HC6.out.output, Nat.le_trans HC6.out.size hk5.size, fun k hk hc => ?_⟩
          rw [hk5.block k (Nat.lt_of_lt_of_le hk HC6.out.size) (by
            simp only [List.mem_singleton]
            rw [HBE.out]
            omega)]
          exact HC6.out.block k hk hc
end Go.Proofs.Ytpdebandcmhbcaa
