/- RespFeeds walked. -/
import Derived.Test.YtdbboooblbdihaaRsqB
namespace Go.Proofs.Ytdbboooblbdihaa
open Go.RowKit
set_option linter.unusedVariables false
set_option linter.unusedSectionVars false
set_option linter.unusedSimpArgs false
set_option maxRecDepth 100000



theorem CmdsIn.app {w0 w : World} {xs ys : List CmdE} {cs ds : List Cmd} (h : CmdsIn w0 w xs cs) (k : CmdsIn w0 w ys ds) : CmdsIn w0 w (xs ++ ys) (cs ++ ds) := by
  refine ⟨by simp [h.1, k.1], fun i y d h1 h2 => ?_⟩
  by_cases hi : i < xs.length
  · rw [List.getElem?_append_left hi] at h1
    rw [List.getElem?_append_left (by rw [← h.1]; exact hi)] at h2
    exact h.2 i y d h1 h2
  · rw [List.getElem?_append_right (by omega)] at h1
    rw [List.getElem?_append_right (by rw [← h.1]; omega), ← h.1] at h2
    exact k.2 _ y d h1 h2
theorem CmdsIn.from_ {w0 w1 w : World} {xs : List CmdE} {cs : List Cmd} (h : CmdsIn w1 w xs cs) (hz : w0.heap.size ≤ w1.heap.size) : CmdsIn w0 w xs cs :=
  ⟨h.1, fun i x c a b => ⟨own_from (h.2 i x c a b).1 hz, (h.2 i x c a b).2⟩⟩
theorem cmds_put2 {w0 w w' : World} {u u' : Value} {xs ys : List CmdE} {cs ds : List Cmd} (hin : CmdsIn w0 w xs cs) (hjn : CmdsIn w0 w ys ds) (hown : w.ownsRow w0.heap.size 43 2 u xs.length (xs.flatMap cmdC))
    (ha : Appended w w' w0.heap.size 43 2 u u' (xs.length + ys.length) (xs.flatMap cmdC ++ ys.flatMap cmdC)) : CmdsAt w0 w' u' (cs ++ ds) ∧ Kp u.ownBlock.toList w w' := by
  have hk := ap_kp ha
  have hns : NoS w u.ownBlock.toList := by
    intro k hk c f hcc
    obtain ⟨c1, f1, h1⟩ := own_at hown k (by simpa using hk)
    exact blocks_ne hcc h1 (by decide) rfl
  refine ⟨⟨xs ++ ys, ?_, (hin.app hjn).kp hk hns⟩, hk⟩
  have := ha.own
  rw [List.length_append, List.flatMap_append]
  exact this
theorem cmds_cells {w0 w : World} {ys : List CmdE} {ds : List Cmd} (h : CmdsIn w0 w ys ds) : ∀ u ∈ ys.flatMap cmdC, u.oneCell' = true := by
  intro u hu
  obtain ⟨x, hx, hu⟩ := List.mem_flatMap.1 hu
  obtain ⟨i, hi⟩ := List.getElem?_of_mem hx
  have hil := (List.getElem?_eq_some_iff.1 hi).1
  obtain ⟨A, c, e⟩ := own_len (h.2 i x _ hi (List.getElem?_eq_getElem (by rw [← h.1]; exact hil))).1
  simp [cmdC] at hu
  rcases hu with rfl | rfl
  · rw [e]; rfl
  · rfl
theorem rd_left_len (l : List UInt8) : (rdAll l).2.1.length ≤ l.length := by
  have h : ∀ (n : Nat) (l : List UInt8), l.length ≤ n → (rdAll l).2.1.length ≤ l.length := by
    intro n
    induction n with
    | zero =>
      intro l hl
      obtain rfl : l = [] := List.eq_nil_of_length_eq_zero (by omega)
      rw [rd_nil]
      simp
    | succ n ih =>
      intro l hl
      cases hc : cmdP l with
      | er c =>
        rw [rdAll_er hc]
        split <;> simp
      | ok ws l' =>
        have h1 := cmd_len hc
        have h2 := ih l' (by omega)
        rw [rdAll_ok hc]
        dsimp only
        omega
  exact h _ l (Nat.le_refl _)
/-- What one more part comes to. -/
theorem feed_step (a : List UInt8) (b : ByteArray) : ∃ ds, feedL (bsv (rdAll a).2.1) (rdAll a).2.2 b = (ds, bsv (rdAll (a ++ b.toList)).2.1, (rdAll (a ++ b.toList)).2.2) ∧ (rdAll (a ++ b.toList)).1 = (rdAll a).1 ++ ds := by
  have h := rd_app a.length a b.toList (Nat.le_refl _)
  unfold feedL
  by_cases hd : (rdAll a).2.2 = true
  · rw [if_pos hd] at h ⊢
    rw [h]
    exact ⟨[], by rw [hd], by simp⟩
  · rw [if_neg hd] at h ⊢
    rw [toList_append2, bsv_list, h]
    exact ⟨_, rfl, rfl⟩
theorem piece_take (s : ByteArray) (a n : Nat) (h : a + n ≤ s.size) : s.toList.take a ++ (s.extract a (a + n)).toList = s.toList.take (a + n) := by
  have e : (s.extract a (a + n)).toList = (s.toList.drop a).take n := by
    rw [Lib.toList_data, Lib.toList_data]
    simp
  rw [e, List.take_add]
theorem piece_all (s : ByteArray) (a : Nat) : s.toList.take a ++ (s.extract a s.size).toList = s.toList := by
  rw [ext_drop, List.take_append_drop]
/-- Where the row of what was read so far stands. -/
structure Fed (w0 w : World) (p : Nat) (lv : Value) (l : List UInt8) : Prop where
  prs : PrsAt w p (bsv (rdAll l).2.1) (rdAll l).2.2
  row : CmdsAt w0 w lv (rdAll l).1
  ext : Ext w0 w
theorem Fed.later {w0 w w' : World} {p : Nat} {lv : Value} {l : List UInt8} (h : Fed w0 w p lv l) (hx : Ext w w') : Fed w0 w' p lv l :=
  ⟨(Kp.of_ext (L := []) hx).heap h.prs (by simp), h.row.ext hx, h.ext.trans hx⟩
set_option maxHeartbeats 8000000 in
theorem respFeeds_any (s : ByteArray) (vc : Value) (cuts : List UInt8) (w : World) (hs : s.size ≤ 9223372036854775807) (hc : Byt w vc cuts) : Calls Try.prog 3 #[.string s, vc] w fun e w' => e = .returned (.bool true) ∧ Ext w w' := by
  obtain ⟨i1, hi1, hz3, hz4, hz5⟩ := info_parts Try.cmdInfo
  obtain ⟨A, m, c, rfl, rfl, hmc, hcm, hr⟩ := hc
  have HR := Lib.hid hr
  clear hr
  by_cases h2 : s.size ≤ 2000
  · have h2B : decide ((2000 : Int) < (s.size : Int)) = false := decide_eq_false (by omega)
    have h2C : decide (2000 < s.size) = false := decide_eq_false (by omega)
    go_enter Try.func3, Try.ntmps3
    go_upto_region 4 with fail
    have hxp := Ext.alloc w (.cells #[.string ⟨#[]⟩, .bool false] 26)
    have hbp : PrsAt (w.alloc (.cells #[.string ⟨#[]⟩, .bool false] 26)) w.heap.size ⟨#[]⟩ false := heap_alloc_new w (.cells #[.string ⟨#[]⟩, .bool false] 26 (0, 0))
    generalize w.alloc (.cells #[.string ⟨#[]⟩, .bool false] 26) = w1 at hxp hbp ⊢
    obtain ⟨p, hp⟩ : ∃ p, p = w.heap.size := ⟨_, rfl⟩
    rw [← hp] at hbp ⊢
    have HP : Hid (w.heap.size ≤ p) := Lib.hid (by omega)
    have HF0 : Hid (Fed w w1 p (.slice none 0 0) []) := Lib.hid ⟨by rw [rd_nil]; exact hbp, by rw [rd_nil]; exact CmdsAt.nil _ _, hxp⟩
    clear hxp hbp hp
    go_wp2_with fail
    go_loopw [6, 7, 8] (fun lv av iv wr => ∃ (i a : Nat), i ≤ cuts.length ∧ i ≤ 100 ∧ a ≤ s.size ∧ av = .int .i64 (a : Int) ∧ iv = .int .i64 (i : Int) ∧ Fed w wr p lv (s.toList.take a)) (fun _ _ iv _ => cuts.length - (intOf iv).toNat)
    case atStart => exact ⟨0, 0, by omega, by omega, by omega, rfl, rfl, by rw [List.take_zero]; exact HF0.out⟩
    case round =>
      clear HF0
      obtain ⟨i, a, hi, hi100, ha, rfl, rfl, hf⟩ := hrel
      have hcl : (rdAll (s.toList.take a)).1.length ≤ 2001 := by have := rd_count (s.toList.take a); rw [List.length_take, size_list] at this; omega
      have hll : (rdAll (s.toList.take a)).2.1.length ≤ 2000 := by have := rd_left_len (s.toList.take a); rw [List.length_take, size_list] at this; omega
      have HF := Lib.hid hf
      clear hf
      by_cases hin : i < cuts.length ∧ i < 100
      · obtain ⟨hi1', hi2⟩ := hin
        have hiI : (i : Int) < (cuts.length : Int) := by omega
        have hiJ : (0 : Int) ≤ (i : Int) := by omega
        have hiK : (i : Int) < 100 := by omega
        obtain ⟨x, hxk⟩ : ∃ x, cuts[i]? = some x := ⟨_, List.getElem?_eq_getElem hi1'⟩
        obtain ⟨ad, rfl, hcell⟩ := (HR.out.ext HF.out.ext).some_ (by rw [List.length_map]; omega)
        have d0 : wr.cell? (ad.add i) = some (.int .u8 (x.toNat : Int)) := hcell i _ (by rw [List.getElem?_map, hxk]; rfl)
        have hxt := x.toNat_lt
        obtain ⟨n, hn⟩ : ∃ n : Nat, (if (x.toNat : Int) < (s.size : Int) - (a : Int) then (x.toNat : Int) else (s.size : Int) - (a : Int)) = (n : Int) := ⟨if x.toNat < s.size - a then x.toNat else s.size - a, by split <;> split <;> omega⟩
        have hna : a + n ≤ s.size := by
          by_cases hh : (x.toNat : Int) < (s.size : Int) - (a : Int)
          · rw [if_pos hh] at hn; omega
          · rw [if_neg hh] at hn; omega
        clear hcell hxk
        have hsl : (0 : Int) ≤ (a : Int) ∧ (a : Int) ≤ (a : Int) + (n : Int) ∧ (a : Int) + (n : Int) ≤ (s.size : Int) := by omega
        have hsm : (0 : Int) ≤ (a : Int) + (n : Int) ∧ (a : Int) + (n : Int) ≤ (s.size : Int) := by omega
        have hpz : (s.extract a (a + n)).size ≤ 2000 := by have := congrArg List.length (piece_take s a n hna); rw [List.length_append, List.length_take, List.length_take, size_list, size_list] at this; omega
        obtain ⟨ds, f1, f2⟩ := feed_step (s.toList.take a) (s.extract a (a + n))
        rw [piece_take s a n hna] at f1 f2
        have hdl : ds.length ≤ 2001 := by have h1 := rd_count (s.toList.take (a + n)); have h3 := congrArg List.length f2; rw [List.length_append] at h3; rw [List.length_take, size_list] at h1; omega
        have F1 := Lib.hid f1
        have F2 := Lib.hid f2
        clear f1 f2
        go_wp2_with fail
        refine (feed_any p _ _ (s.extract a (a + n)) wr HF.out.prs (by rw [bsv_size]; omega)).mono ?_
        rw [F1.out]
        rintro e w1 ⟨vd, rfl, hcd, hb1, hk1⟩
        have HX1 := Lib.hid (hk1.to_ext HF.out.ext (by simpa using HP.out))
        have HC1 := Lib.hid (HF.out.row.prs HF.out.prs hk1)
        obtain ⟨ys, hyo, hyi⟩ := hcd
        obtain ⟨xs, hxo, hxi⟩ := HC1.out
        obtain ⟨Ad, cd, rfl⟩ := own_len hyo
        obtain ⟨Al, cl, hle⟩ := own_len hxo
        subst hle
        have hyl : ys.length ≤ 2001 := by rw [hyi.1]; exact hdl
        have hxl : xs.length ≤ 2001 := by rw [hxi.1]; exact hcl
        have HYI := Lib.hid (hyi.from_ HF.out.ext.size : CmdsIn w w1 ys ds)
        have HYR := Lib.hid (Rd.own hyo)
        have HXO := Lib.hid hxo
        have HXI := Lib.hid hxi
        have HB1 := Lib.hid hb1
        clear hyo hyi hxo hxi hb1 hk1 HC1
        go_upto_region 11 with (first
                                 | (at_builtin
                                    refine wpList_append_rd (P := Try.prog) _ rfl (.tmp 42) (.tmp 50) 27 rfl w.heap.size 43 i1 (.agg #[.slice none 0 0, .int .i64 0]) 2 32 Try.underlying27 hi1 hz3 hz4 hz5 rfl (by decide) (.slice Al xs.length cl) xs.length (xs.flatMap cmdC) rfl (by exact HXO.out) Ad ys.length cd (ys.flatMap cmdC) rfl (by rw [flat_length cmdC_len]) (by exact HYR.out) (cmds_cells HYI.out) (by simp only [maxLen]; omega) (by omega) HX1.out.size ?_
                                    intro v2 w2 happ
                                    obtain ⟨A2, c2, rfl⟩ := own_len happ.own
                                    have hput := cmds_put2 HXI.out HYI.out HXO.out happ
                                    clear happ))
        have HX2 := Lib.hid (hput.2.to_ext HX1.out (fun k hk => row_new HXO.out k (by simpa using hk)))
        have hpn : p ∉ (Value.slice Al xs.length cl).ownBlock.toList := fun hm => by
          obtain ⟨c1, f1, h1⟩ := own_at HXO.out p (by simpa using hm)
          exact blocks_ne h1 HB1.out (by decide) rfl
        have HF2 : Hid (Fed w w2 p (.slice A2 (xs.length + ys.length) c2) (s.toList.take (a + n))) := Lib.hid ⟨hput.2.heap HB1.out hpn, by rw [F2.out]; exact hput.1, HX2.out⟩
        clear hput hpn HX1 HYI HYR HXO HXI HB1
        obtain ⟨T, hT⟩ : ∃ T, rdAll (s.toList.take (a + n)) = T := ⟨_, rfl⟩
        have hb3 : PrsAt w2 p (bsv T.2.1) T.2.2 := by rw [← hT]; exact HF2.out.prs
        have hr3 : CmdsAt w w2 (.slice A2 (xs.length + ys.length) c2) T.1 := by rw [← hT]; exact HF2.out.row
        have hrd := fun wz (hz : (s.extract 0 (a + n)).size ≤ 1000000000) => read_any (s.extract 0 (a + n)) wz hz
        rw [(ext_take s (a + n)), hT] at hrd
        have hcn : T.1.length ≤ 2001 := by rw [← hT, F2.out, List.length_append]; have := rd_count (s.toList.take (a + n)); have h4 := congrArg List.length F2.out; rw [List.length_append] at h4; (try simp at this); have h5 := size_list s; omega
        have hsz : (s.extract 0 (a + n)).size ≤ 1000000000 := by rw [← size_list, (ext_take s (a + n))]; have := size_list s; simp; omega
        have HT := Lib.hid hT
        obtain ⟨cs, lr, d0⟩ := T
        dsimp only at hb3 hr3 hrd hcn
        generalize bsv lr = lf at hb3 hrd
        have HB3 := Lib.hid hb3
        have HR3 := Lib.hid hr3
        have HRD := Lib.hid (hrd w2 hsz)
        have hq1 : ((lf.size : Int) != (lf.size : Int)) = false := by simp
        have hq2 : ((lf.size : Int) == (lf.size : Int)) = true := by simp
        have hq3 : (d0 != d0) = false := by simp
        have hq4 : (d0 == d0) = true := by simp
        clear hb3 hr3 hrd hT hsz
        go_wp2_with fail
        refine HRD.out.mono ?_
        rintro e w3 ⟨u3, rfl, hu3, hx3⟩
        have HX3 := Lib.hid hx3
        have HU3 := Lib.hid hu3.r
        clear hu3 hx3 HRD
        go_wp2_with fail
        refine (lplain_any _ cs w3 (HR3.out.ext HX3.out).r (by omega)).mono ?_
        rintro e w4 ⟨u4, rfl, hu4, hx4⟩
        have HX4 := Lib.hid (HX3.out.trans hx4)
        have HU4 := Lib.hid hu4
        replace HU3 := Lib.hid (HU3.out.ext hx4)
        clear hu4 hx4 HX3
        go_wp2_with fail
        refine (rsame_any _ _ cs cs w4 HU4.out HU3.out).mono ?_
        rw [show decide (cs = cs) = true from decide_eq_true rfl]
        rintro e w5 ⟨rfl, hx5⟩
        have HX5 := Lib.hid (HX4.out.trans hx5)
        clear hx5 HX4 HU3 HU4
        have HB5 : Hid (PrsAt w5 p _ _) := Lib.hid ((Kp.of_ext (L := []) HX5.out).heap HB3.out (by simp))
        go_wp2_with fail
        refine (left_any p lf d0 w5 HB5.out).mono ?_
        rintro e _ ⟨rfl, rfl⟩
        go_wp2_with fail
        refine (dead_any p lf d0 w5 HB5.out).mono ?_
        rintro e w6 ⟨rfl, q, rfl⟩
        have HX6 := Lib.hid (HX5.out.trans (Ext.drewN q w5))
        generalize w5.drewN q = w6 at HX6 ⊢
        clear HX5 HB5
        go_wp2_with fail
        go_roundw
        case rel => exact ⟨i + 1, a + n, by omega, by omega, hna, by go_num, by go_num, HF2.out.later HX6.out⟩
        case measure => simp [intOf]; omega
      · have hsl : (0 : Int) ≤ (a : Int) ∧ (a : Int) ≤ (s.size : Int) := by omega
        have hpz : (s.extract a s.size).size ≤ 2000 := by rw [← size_list, ext_drop, List.length_drop, size_list]; omega
        obtain ⟨ds, f1, f2⟩ := feed_step (s.toList.take a) (s.extract a s.size)
        rw [piece_all s a] at f1 f2
        have hdl : ds.length ≤ 2001 := by have h1 := rd_count s.toList; have h3 := congrArg List.length f2; rw [List.length_append] at h3; rw [size_list] at h1; omega
        have F1 := Lib.hid f1
        have F2 := Lib.hid f2
        clear f1 f2
        by_cases hil : i < cuts.length
        · have hiI : (i : Int) < (cuts.length : Int) := by omega
          have hiK : ¬ (i : Int) < 100 := by omega
          have hiL : decide ((i : Int) < 100) = false := decide_eq_false hiK
          have hiM : decide (i < 100) = false := decide_eq_false (by omega)
          clear hin hil
          go_wp2_with fail
          refine (feed_any p _ _ (s.extract a s.size) wr HF.out.prs (by rw [bsv_size]; omega)).mono ?_
          rw [F1.out]
          rintro e w1 ⟨vd, rfl, hcd, hb1, hk1⟩
          have HX1 := Lib.hid (hk1.to_ext HF.out.ext (by simpa using HP.out))
          have HC1 := Lib.hid (HF.out.row.prs HF.out.prs hk1)
          obtain ⟨ys, hyo, hyi⟩ := hcd
          obtain ⟨xs, hxo, hxi⟩ := HC1.out
          obtain ⟨Ad, cd, rfl⟩ := own_len hyo
          obtain ⟨Al, cl, hle⟩ := own_len hxo
          subst hle
          have hyl : ys.length ≤ 2001 := by rw [hyi.1]; exact hdl
          have hxl : xs.length ≤ 2001 := by rw [hxi.1]; exact hcl
          have HYI := Lib.hid (hyi.from_ HF.out.ext.size : CmdsIn w w1 ys ds)
          have HYR := Lib.hid (Rd.own hyo)
          have HXO := Lib.hid hxo
          have HXI := Lib.hid hxi
          have HB1 := Lib.hid hb1
          clear hyo hyi hxo hxi hb1 hk1 HC1
          go_upto_region 16 with (first
                                   | (at_builtin
                                      refine wpList_append_rd (P := Try.prog) _ rfl (.tmp 81) (.tmp 86) 27 rfl w.heap.size 43 i1 (.agg #[.slice none 0 0, .int .i64 0]) 2 32 Try.underlying27 hi1 hz3 hz4 hz5 rfl (by decide) (.slice Al xs.length cl) xs.length (xs.flatMap cmdC) rfl (by exact HXO.out) Ad ys.length cd (ys.flatMap cmdC) rfl (by rw [flat_length cmdC_len]) (by exact HYR.out) (cmds_cells HYI.out) (by simp only [maxLen]; omega) (by omega) HX1.out.size ?_
                                      intro v2 w2 happ
                                      obtain ⟨A2, c2, rfl⟩ := own_len happ.own
                                      have hput := cmds_put2 HXI.out HYI.out HXO.out happ
                                      clear happ))
          have HX2 := Lib.hid (hput.2.to_ext HX1.out (fun k hk => row_new HXO.out k (by simpa using hk)))
          have hpn : p ∉ (Value.slice Al xs.length cl).ownBlock.toList := fun hm => by
            obtain ⟨c1, f1, h1⟩ := own_at HXO.out p (by simpa using hm)
            exact blocks_ne h1 HB1.out (by decide) rfl
          have HF2 : Hid (Fed w w2 p (.slice A2 (xs.length + ys.length) c2) (s.toList)) := Lib.hid ⟨hput.2.heap HB1.out hpn, by rw [F2.out]; exact hput.1, HX2.out⟩
          clear hput hpn HX1 HYI HYR HXO HXI HB1
          obtain ⟨T, hT⟩ : ∃ T, rdAll s.toList = T := ⟨_, rfl⟩
          have hb3 : PrsAt w2 p (bsv T.2.1) T.2.2 := by rw [← hT]; exact HF2.out.prs
          have hr3 : CmdsAt w w2 (.slice A2 (xs.length + ys.length) c2) T.1 := by rw [← hT]; exact HF2.out.row
          have hrd := fun wz (hz : s.size ≤ 1000000000) => read_any s wz hz
          rw [(show s.toList = s.toList from rfl), hT] at hrd
          have hcn : T.1.length ≤ 2001 := by rw [← hT, F2.out, List.length_append]; have := rd_count s.toList; have h4 := congrArg List.length F2.out; rw [List.length_append] at h4; (try simp at this); have h5 := size_list s; omega
          have hsz : s.size ≤ 1000000000 := by rw [← size_list, (show s.toList = s.toList from rfl)]; have := size_list s; simp; omega
          have HT := Lib.hid hT
          obtain ⟨cs, lr, d0⟩ := T
          dsimp only at hb3 hr3 hrd hcn
          generalize bsv lr = lf at hb3 hrd
          have HB3 := Lib.hid hb3
          have HR3 := Lib.hid hr3
          have HRD := Lib.hid (hrd w2 hsz)
          have hq1 : ((lf.size : Int) != (lf.size : Int)) = false := by simp
          have hq2 : ((lf.size : Int) == (lf.size : Int)) = true := by simp
          have hq3 : (d0 != d0) = false := by simp
          have hq4 : (d0 == d0) = true := by simp
          clear hb3 hr3 hrd hT hsz
          go_wp2_with fail
          refine HRD.out.mono ?_
          rintro e w3 ⟨u3, rfl, hu3, hx3⟩
          have HX3 := Lib.hid hx3
          have HU3 := Lib.hid hu3.r
          clear hu3 hx3 HRD
          go_wp2_with fail
          refine (lplain_any _ cs w3 (HR3.out.ext HX3.out).r (by omega)).mono ?_
          rintro e w4 ⟨u4, rfl, hu4, hx4⟩
          have HX4 := Lib.hid (HX3.out.trans hx4)
          have HU4 := Lib.hid hu4
          replace HU3 := Lib.hid (HU3.out.ext hx4)
          clear hu4 hx4 HX3
          go_wp2_with fail
          refine (rsame_any _ _ cs cs w4 HU4.out HU3.out).mono ?_
          rw [show decide (cs = cs) = true from decide_eq_true rfl]
          rintro e w5 ⟨rfl, hx5⟩
          have HX5 := Lib.hid (HX4.out.trans hx5)
          clear hx5 HX4 HU3 HU4
          have HB5 : Hid (PrsAt w5 p _ _) := Lib.hid ((Kp.of_ext (L := []) HX5.out).heap HB3.out (by simp))
          go_wp2_with fail
          refine (left_any p lf d0 w5 HB5.out).mono ?_
          rintro e _ ⟨rfl, rfl⟩
          go_wp2_with fail
          refine (dead_any p lf d0 w5 HB5.out).mono ?_
          rintro e w6 ⟨rfl, q, rfl⟩
          have HX6 := Lib.hid (HX5.out.trans (Ext.drewN q w5))
          generalize w5.drewN q = w6 at HX6 ⊢
          clear HX5 HB5
          go_wp2_with fail
          refine (known_any _).mono ?_
          rintro e wk ⟨rfl, hxk⟩
          have HXK := Lib.hid ((HF2.out.ext.trans HX6.out).trans hxk)
          clear hxk
          go_wp2_with fail
          go_ret
          exact ⟨rfl, HXK.out⟩
        · have hiI : decide ((i : Int) < (cuts.length : Int)) = false := decide_eq_false (by omega)
          have hiJ : decide (i < cuts.length) = false := decide_eq_false (by omega)
          have hiN : ¬ (i : Int) < (cuts.length : Int) := by omega
          clear hin hil
          go_wp2_with fail
          refine (feed_any p _ _ (s.extract a s.size) wr HF.out.prs (by rw [bsv_size]; omega)).mono ?_
          rw [F1.out]
          rintro e w1 ⟨vd, rfl, hcd, hb1, hk1⟩
          have HX1 := Lib.hid (hk1.to_ext HF.out.ext (by simpa using HP.out))
          have HC1 := Lib.hid (HF.out.row.prs HF.out.prs hk1)
          obtain ⟨ys, hyo, hyi⟩ := hcd
          obtain ⟨xs, hxo, hxi⟩ := HC1.out
          obtain ⟨Ad, cd, rfl⟩ := own_len hyo
          obtain ⟨Al, cl, hle⟩ := own_len hxo
          subst hle
          have hyl : ys.length ≤ 2001 := by rw [hyi.1]; exact hdl
          have hxl : xs.length ≤ 2001 := by rw [hxi.1]; exact hcl
          have HYI := Lib.hid (hyi.from_ HF.out.ext.size : CmdsIn w w1 ys ds)
          have HYR := Lib.hid (Rd.own hyo)
          have HXO := Lib.hid hxo
          have HXI := Lib.hid hxi
          have HB1 := Lib.hid hb1
          clear hyo hyi hxo hxi hb1 hk1 HC1
          go_upto_region 16 with (first
                                   | (at_builtin
                                      refine wpList_append_rd (P := Try.prog) _ rfl (.tmp 81) (.tmp 86) 27 rfl w.heap.size 43 i1 (.agg #[.slice none 0 0, .int .i64 0]) 2 32 Try.underlying27 hi1 hz3 hz4 hz5 rfl (by decide) (.slice Al xs.length cl) xs.length (xs.flatMap cmdC) rfl (by exact HXO.out) Ad ys.length cd (ys.flatMap cmdC) rfl (by rw [flat_length cmdC_len]) (by exact HYR.out) (cmds_cells HYI.out) (by simp only [maxLen]; omega) (by omega) HX1.out.size ?_
                                      intro v2 w2 happ
                                      obtain ⟨A2, c2, rfl⟩ := own_len happ.own
                                      have hput := cmds_put2 HXI.out HYI.out HXO.out happ
                                      clear happ))
          have HX2 := Lib.hid (hput.2.to_ext HX1.out (fun k hk => row_new HXO.out k (by simpa using hk)))
          have hpn : p ∉ (Value.slice Al xs.length cl).ownBlock.toList := fun hm => by
            obtain ⟨c1, f1, h1⟩ := own_at HXO.out p (by simpa using hm)
            exact blocks_ne h1 HB1.out (by decide) rfl
          have HF2 : Hid (Fed w w2 p (.slice A2 (xs.length + ys.length) c2) (s.toList)) := Lib.hid ⟨hput.2.heap HB1.out hpn, by rw [F2.out]; exact hput.1, HX2.out⟩
          clear hput hpn HX1 HYI HYR HXO HXI HB1
          obtain ⟨T, hT⟩ : ∃ T, rdAll s.toList = T := ⟨_, rfl⟩
          have hb3 : PrsAt w2 p (bsv T.2.1) T.2.2 := by rw [← hT]; exact HF2.out.prs
          have hr3 : CmdsAt w w2 (.slice A2 (xs.length + ys.length) c2) T.1 := by rw [← hT]; exact HF2.out.row
          have hrd := fun wz (hz : s.size ≤ 1000000000) => read_any s wz hz
          rw [(show s.toList = s.toList from rfl), hT] at hrd
          have hcn : T.1.length ≤ 2001 := by rw [← hT, F2.out, List.length_append]; have := rd_count s.toList; have h4 := congrArg List.length F2.out; rw [List.length_append] at h4; (try simp at this); have h5 := size_list s; omega
          have hsz : s.size ≤ 1000000000 := by rw [← size_list, (show s.toList = s.toList from rfl)]; have := size_list s; simp; omega
          have HT := Lib.hid hT
          obtain ⟨cs, lr, d0⟩ := T
          dsimp only at hb3 hr3 hrd hcn
          generalize bsv lr = lf at hb3 hrd
          have HB3 := Lib.hid hb3
          have HR3 := Lib.hid hr3
          have HRD := Lib.hid (hrd w2 hsz)
          have hq1 : ((lf.size : Int) != (lf.size : Int)) = false := by simp
          have hq2 : ((lf.size : Int) == (lf.size : Int)) = true := by simp
          have hq3 : (d0 != d0) = false := by simp
          have hq4 : (d0 == d0) = true := by simp
          clear hb3 hr3 hrd hT hsz
          go_wp2_with fail
          refine HRD.out.mono ?_
          rintro e w3 ⟨u3, rfl, hu3, hx3⟩
          have HX3 := Lib.hid hx3
          have HU3 := Lib.hid hu3.r
          clear hu3 hx3 HRD
          go_wp2_with fail
          refine (lplain_any _ cs w3 (HR3.out.ext HX3.out).r (by omega)).mono ?_
          rintro e w4 ⟨u4, rfl, hu4, hx4⟩
          have HX4 := Lib.hid (HX3.out.trans hx4)
          have HU4 := Lib.hid hu4
          replace HU3 := Lib.hid (HU3.out.ext hx4)
          clear hu4 hx4 HX3
          go_wp2_with fail
          refine (rsame_any _ _ cs cs w4 HU4.out HU3.out).mono ?_
          rw [show decide (cs = cs) = true from decide_eq_true rfl]
          rintro e w5 ⟨rfl, hx5⟩
          have HX5 := Lib.hid (HX4.out.trans hx5)
          clear hx5 HX4 HU3 HU4
          have HB5 : Hid (PrsAt w5 p _ _) := Lib.hid ((Kp.of_ext (L := []) HX5.out).heap HB3.out (by simp))
          go_wp2_with fail
          refine (left_any p lf d0 w5 HB5.out).mono ?_
          rintro e _ ⟨rfl, rfl⟩
          go_wp2_with fail
          refine (dead_any p lf d0 w5 HB5.out).mono ?_
          rintro e w6 ⟨rfl, q, rfl⟩
          have HX6 := Lib.hid (HX5.out.trans (Ext.drewN q w5))
          generalize w5.drewN q = w6 at HX6 ⊢
          clear HX5 HB5
          go_wp2_with fail
          refine (known_any _).mono ?_
          rintro e wk ⟨rfl, hxk⟩
          have HXK := Lib.hid ((HF2.out.ext.trans HX6.out).trans hxk)
          clear hxk
          go_wp2_with fail
          go_ret
          exact ⟨rfl, HXK.out⟩
  · have h2B : decide ((2000 : Int) < (s.size : Int)) = true := decide_eq_true (by omega)
    have h2C : decide (2000 < s.size) = true := decide_eq_true (by omega)
    go_enter Try.func3, Try.ntmps3
    go_wp2_with fail
    refine (known_any _).mono ?_
    rintro e wk ⟨rfl, hxk⟩
    have HXK := Lib.hid ((Ext.refl w).trans hxk)
    clear hxk
    go_wp2_with fail
    go_ret
    exact ⟨rfl, HXK.out⟩
end Go.Proofs.Ytdbboooblbdihaa
