/- The document's log: Open, Rewrite. -/
import Derived.Test.YtdndeggognfcaaaAofC
namespace Go.Proofs.Ytdndeggognfcaaa
open Go.RowKit Crc Fil
set_option linter.unusedVariables false
set_option linter.unusedSectionVars false
set_option linter.unusedSimpArgs false
set_option maxRecDepth 100000


theorem frmsB_bs (R : List (List UInt8)) : frmsB (R.map bs) = frms R := by
  unfold frmsB
  rw [List.map_map]
  have : ((fun s : ByteArray => s.toList) ∘ bs) = id := by funext s; exact bs_list s
  rw [this, List.map_id]
set_option maxHeartbeats 4000000 in
theorem rOpen_any (g rg : Nat) (t : St) (w : World) (h : RefAt w rg t) (hok : t.Ok) :
    Calls Try.prog 28 #[.pointer (some ⟨rg, 0, none⟩)] w fun e w' => ∃ rl rv, e = .returned (.pointer (some ⟨rl, 0, none⟩)) ∧ RLogC w' rl rg rv (openL g t) ∧ Kp [rg] w w' ∧ Sub w [rg] (rb rl rg rv) := by
  have c0 : w.cell? ⟨rg, 0, none⟩ = some (.string t.s) := heap_cell h 0
  have hto := hok.text.1
  dsimp only at hto
  have hlt := (Array.getElem?_eq_some_iff.1 h).1
  have HH := Lib.hid h
  have HLT := Lib.hid hlt
  have HOPEN : Hid (openL g t = ⟨g, (cutR t ((frmsB (recsL t)).length : Int)).2, recsL t, (recsL t).length, false⟩) := Lib.hid (by unfold openL recsL; rw [frmsB_bs])
  have hfl : (frmsB (recsL t)).length ≤ t.s.size := by
    unfold recsL
    rw [frmsB_bs]
    obtain ⟨_, r, h2, _⟩ := read_good t.s.toList
    have := congrArg List.length h2
    rw [List.length_append, size_list] at this
    omega
  have hgood : Hid (∀ x ∈ recsL t, x.size ≤ 9223372036854775807) := Lib.hid (by
    intro x hx
    obtain ⟨y, hy, rfl⟩ := List.mem_map.1 hx
    have := ((read_good t.s.toList).1 y hy).2
    rw [bs_size]
    omega)
  clear h hlt
  go_enter Try.func28, Try.ntmps28
  go_wp2_with fail
  refine (rRead_any t.s w hto).mono ?_
  rintro e w1 ⟨u, rfl, hu, hx1⟩
  have hu' : Own w w1 u (recsL t) := hu
  obtain ⟨A, c, rfl⟩ := own_len hu'
  have HU := Lib.hid hu'
  have HX1 := Lib.hid hx1
  have HF1 := Lib.hid (HH.out.ext hx1)
  generalize recsL t = rl0 at HU hfl hgood HOPEN ⊢
  clear c0 hu hu' hx1
  go_wp2_with fail
  refine (rFrames_any _ rl0 w1 HU.out.txt (by omega) hgood.out).mono ?_
  rintro e w2 ⟨rfl, hx2⟩
  have HX2 := Lib.hid (HX1.out.trans hx2)
  have HF2 := Lib.hid (HF1.out.ext hx2)
  have HU2 := Lib.hid (HU.out.ext hx2)
  have hfz := bs_size (frmsB rl0)
  clear hx2
  go_wp2_with fail
  try rw [hfz]
  refine (rCut_any rg t ((frmsB rl0).length : Int) w2 HF2.out hto (by omega) (by omega)).mono ?_
  rintro e w3 ⟨rfl, hk3, hf3⟩
  have HF3 := Lib.hid hf3
  have HK3 := Lib.hid ((Kp.of_ext (L := [rg]) HX2.out).trans hk3 (Sub.refl _ _))
  have HU3 : Hid (Own w w3 (.slice A rl0.length c) rl0) := Lib.hid (own_kp HU2.out hk3 (fun k e => by
    obtain ⟨c', f', h1⟩ := own_at HU2.out k e
    simpa using blocks_ne h1 HF2.out (by decide)))
  clear hk3 hf3
  go_wp2_with fail
  go_ret
  have hb := heap_alloc_new w3 (.cells #[.pointer (some ⟨rg, 0, none⟩), .slice A rl0.length c, .int .i64 (rl0.length : Int), .bool false] 58 (0, 0))
  have hxa := Ext.alloc w3 (.cells #[.pointer (some ⟨rg, 0, none⟩), .slice A rl0.length c, .int .i64 (rl0.length : Int), .bool false] 58)
  refine ⟨w3.heap.size, .slice A rl0.length c, rfl, ?_, HK3.out.then hxa, ?_⟩
  · rw [HOPEN.out]
    exact ⟨hb, own_kp (own_base HU3.out) (Kp.of_ext (L := []) hxa) (by simp), HF3.out.ext hxa⟩
  · intro k hk
    rcases mem_rb.1 hk with h | h | h
    · have := HK3.out.size
      exact .inr (by omega)
    · exact .inl (by simp [h])
    · exact .inr (own_new HU3.out k h)
set_option maxHeartbeats 8000000 in
theorem rlRewrite_any (rl rg : Nat) (rv : Value) (s : LSt) (v : Value) (l : List ByteArray) (n : Int) (w : World) (h : RLogC w rl rg rv s) (hok : s.t.Ok) (hv : ∀ w', Kp (rb rl rg rv) w w' → Txt w' v l) (hl : l.length ≤ 1000) (hs : ∀ x ∈ l, x.size ≤ 400) (h1 : -9223372036854775808 ≤ n) (h2 : n ≤ 9223372036854775807) :
    Calls Try.prog 31 #[.pointer (some ⟨rl, 0, none⟩), v, .int .i64 n] w fun e w' => e = .returned (.int .i64 (rewL s l n).1) ∧ RDid w w' rl rg rv (rewL s l n).2 := by
  obtain ⟨c0, c1, c2, c3⟩ := h.cells
  by_cases hh : s.halted = true
  · have hr : rewL s l n = (12, s) := if_pos hh
    rw [hr]
    rw [hh] at c3
    have HD := Lib.hid (RDid.same h)
    clear h
    go_enter Try.func31, Try.ntmps31
    go_wp2_with fail
    go_ret
    exact ⟨rfl, HD.out⟩
  · have hhf : s.halted = false := by simpa using hh
    have hrl : rewL s l n = if frmsOk l = false ∨ n < 0 then (1, s) else
        if n < 4 then (12, { s with t := rewT s.t (bs (frmsB l)) n, halted := true }) else (0, { s with l := l, sure := l.length, t := syncT (rewT s.t (bs (frmsB l)) n) }) := by unfold rewL; rw [if_neg hh]
    have hfz := frms_le l hs
    have HFR : Hid (∀ wz, Ext w wz → Calls Try.prog 49 #[v] wz fun e w' => e = .returned (.string (bs (frmsB l))) ∧ Ext wz w') := Lib.hid (fun wz hx => rFrames_any v l wz (hv wz (Kp.of_ext hx)) (by omega) (fun x hx => by have := hs x hx; omega))
    obtain ⟨A, m, c, rfl, hm, hmc, hcm, hr⟩ := hv w (Kp.refl _ _)
    have HM := Lib.hid hm
    have HRD := Lib.hid hr
    have HH := Lib.hid h
    have HV := Lib.hid hv
    have HOK := Lib.hid hok
    have HSZ := Lib.hid hs
    rw [hhf] at c3
    by_cases hn0 : n < 0
    · have hr : rewL s l n = (1, s) := by rw [hrl, if_pos (.inr hn0)]
      rw [hr]
      have HD := Lib.hid (RDid.same h)
      have hn0J : decide (n < 0) = true := decide_eq_true hn0
      clear h hv hs hok hrl hr
      go_enter Try.func31, Try.ntmps31
      go_wp2_with fail
      go_ret
      exact ⟨rfl, HD.out⟩
    have hn0J : decide (n < 0) = false := decide_eq_false hn0
    have HRL := Lib.hid hrl
    clear h hv hs hok hr hrl hm hh
    go_enter Try.func31, Try.ntmps31
    go_wp2_with fail
    go_loopw [7] (fun iv wr => ∃ k : Nat, k ≤ m ∧ iv = .int .i64 (k : Int) ∧ frmsOk (l.take k) = true ∧ Ext w wr) (fun iv _ => m - (intOf iv).toNat)
    case atStart => exact ⟨0, by omega, rfl, rfl, Ext.refl _⟩
    case round =>
      obtain ⟨k, hk, rfl, hok, hx⟩ := hrel
      have HX := Lib.hid hx
      have HOKK := Lib.hid hok
      by_cases hkl : k < m
      · have hkI : (k : Int) < (m : Int) := by omega
        have hkJ : (0 : Int) ≤ (k : Int) := by omega
        have hlm := HM.out
        obtain ⟨x, hxk⟩ : ∃ x, l[k]? = some x := ⟨_, List.getElem?_eq_getElem (by omega)⟩
        obtain ⟨ad, rfl, hcell⟩ := (HRD.out.ext HX.out).some_ (by rw [List.length_map]; omega)
        have d0 := hcell k (.string x) (by rw [List.getElem?_map, hxk]; rfl)
        have hsz := HSZ.out x (List.mem_of_getElem? hxk)
        have HXK := Lib.hid hxk
        clear hcell hxk hx hok hlm c0 c1 c2 c3
        go_wp2_with fail
        refine (rFrame_any x wr (by omega)).mono ?_
        rintro e w1 ⟨rfl, hx1⟩
        have HX1 := Lib.hid (HX.out.trans hx1)
        have hem := frm_empty (s := x.toList)
        clear hx1 d0
        by_cases hg : good x.toList
        · have HOS := Lib.hid (ok_snoc HXK.out)
          rw [decide_eq_true hg] at hem HOS
          have hem2 : (bs (frm x.toList)).toList.isEmpty = false := hem
          clear hem hg
          generalize bs (frm x.toList) = fr at hem2 ⊢
          go_wp2_with fail
          go_roundw
          case rel => exact ⟨k + 1, by omega, by go_num, by rw [HOS.out, HOKK.out]; rfl, HX1.out⟩
          case measure => simp [intOf]; omega
        · rw [decide_eq_false hg] at hem
          have hem2 : (bs (frm x.toList)).toList.isEmpty = true := hem
          have HR : Hid (rewL s l n = (1, s)) := Lib.hid (by rw [HRL.out, if_pos (.inl (ok_not HXK.out hg))])
          clear hem hg
          generalize bs (frm x.toList) = fr at hem2 ⊢
          go_wp2_with fail
          go_ret
          rw [HR.out]
          exact ⟨rfl, (RStep.ext HX1.out).did (HH.out.ext HX1.out)⟩
      · obtain rfl : k = m := by omega
        have hlm := HM.out
        have hokl : frmsOk l = true := by have := HOKK.out; rwa [List.take_of_length_le (by omega)] at this
        have hrl := HRL.out
        rw [if_neg (by rw [hokl]; simpa using hn0)] at hrl
        have HX1 := HX
        have HC := Lib.hid (HH.out.ext HX.out)
        have HS : Hid (RStep w wr rl rg rv rv) := Lib.hid (RStep.ext HX.out)
        rw [← bs_size] at hfz
        generalize bs (frmsB l) = fs at hfz hrl HFR
        generalize wr = w1 at HX1 HC HS ⊢
        clear hx hok HX hokl c0 c1 c2 c3
        have hcs : n = 0 ∨ n = 1 ∨ n = 2 ∨ n = 3 ∨ 4 ≤ n := by omega
        rcases hcs with rfl | rfl | rfl | rfl | hn4
        · have HR : Hid (rewL s l 0 = (12, { s with t := s.t, halted := true })) := Lib.hid (by rw [hrl, if_pos (by decide)]; rfl)
          clear hrl hn0 hn0J
          obtain ⟨c0, c1, c2, c3⟩ := HC.out.cells
          have f3 := heap_frozen HC.out.blk 3
          have HD := Lib.hid ((HS.out.trans (RStep.word 3 (.bool true))).did (HC.out.worded (n := s.sure) (b := true) 3 (.bool true) rfl))
          go_wp2_with fail
          go_ret
          rw [HR.out]
          exact ⟨rfl, HD.out⟩
        · have HR : Hid (rewL s l 1 = (12, { s with t := { s.t with other := some (fs, 0) }, halted := true })) := Lib.hid (by rw [hrl, if_pos (by decide)]; rfl)
          clear hrl hn0 hn0J
          obtain ⟨c0, c1, c2, c3⟩ := HC.out.cells
          go_upto_region 11 with fail
          refine wp_region_held_drew (S := fun wz => wz.cell? ⟨rl, 0, none⟩ = some (.pointer (some ⟨rg, 0, none⟩))) (by kernel_rfl) c0 (fun hHeld => ?_)
          have hxt : Ext w1 w1.drew := Ext.drew _
          generalize w1.drew = v2 at hxt hHeld ⊢
          refine' wpAnyH_take (i := 0) (oi := _) (v := _) ?hi14 ?hs14 ?hf14 ?hr14 ?hQ14 (Or.inl ⟨?hw14, ?hy14⟩) (by assumption) ?hrest14
          case hi14 => simp only [List.getElem?_toArray]; rfl
          case hs14 => kernel_rfl
          case hf14 => kernel_rfl
          case hr14 => kernel_rfl
          case hQ14 => exact fun _ _ _ h => h
          case hw14 => rfl
          case hy14 => intro w hSw; (try dsimp only at hSw); go_simp; try with_reducible rfl
          try simp only [Act.put, List.setIfInBounds_toArray, List.set_cons_zero, List.set_cons_succ]
          refine' wpAnyH_take (i := 1) (oi := _) (v := _) ?hi15 ?hs15 ?hf15 ?hr15 ?hQ15 (Or.inl ⟨?hw15, ?hy15⟩) (by assumption) ?hrest15
          case hi15 => simp only [List.getElem?_toArray]; rfl
          case hs15 => kernel_rfl
          case hf15 => kernel_rfl
          case hr15 => kernel_rfl
          case hQ15 => exact fun _ _ _ h => h
          case hw15 => rfl
          case hy15 => intro w hSw; (try dsimp only at hSw); go_simp; try with_reducible rfl
          try simp only [Act.put, List.setIfInBounds_toArray, List.set_cons_zero, List.set_cons_succ]
          refine' wpAnyH_take (i := 2) (oi := _) (v := _) ?hi16 ?hs16 ?hf16 ?hr16 ?hQ16 (Or.inl ⟨?hw16, ?hy16⟩) (by assumption) ?hrest16
          case hi16 => simp only [List.getElem?_toArray]; rfl
          case hs16 => kernel_rfl
          case hf16 => kernel_rfl
          case hr16 => kernel_rfl
          case hQ16 => exact fun _ _ _ h => h
          case hw16 => rfl
          case hy16 => intro w hSw; (try dsimp only at hSw); go_simp; try with_reducible rfl
          try simp only [Act.put, List.setIfInBounds_toArray, List.set_cons_zero, List.set_cons_succ]
          refine' wpAnyH_take (i := 3) (oi := _) (v := _) ?hi17 ?hs17 ?hf17 ?hr17 ?hQ17 (Or.inl ⟨?hw17, ?hy17⟩) (by assumption) ?hrest17
          case hi17 => simp only [List.getElem?_toArray]; rfl
          case hs17 => kernel_rfl
          case hf17 => kernel_rfl
          case hr17 => kernel_rfl
          case hQ17 => exact fun _ _ _ h => h
          case hw17 => rfl
          case hy17 => intro w hSw; (try dsimp only at hSw); go_simp; try with_reducible rfl
          try simp only [Act.put, List.setIfInBounds_toArray, List.set_cons_zero, List.set_cons_succ]
          refine' wpAnyH_take (i := 4) (oi := _) (v := _) ?hi18 ?hs18 ?hf18 ?hr18 ?hQ18 (Or.inl ⟨?hw18, ?hy18⟩) (by assumption) ?hrest18
          case hi18 => simp only [List.getElem?_toArray]; rfl
          case hs18 => kernel_rfl
          case hf18 => kernel_rfl
          case hr18 => kernel_rfl
          case hQ18 => exact fun _ _ _ h => h
          case hw18 => rfl
          case hy18 => intro w hSw; (try dsimp only at hSw); go_simp; try with_reducible rfl
          try simp only [Act.put, List.setIfInBounds_toArray, List.set_cons_zero, List.set_cons_succ]
          refine wpAnyH_ready (rs := [5]) (by kernel_rfl) (by simp) ?_
          refine' AllReadyH.cons (o := _) ?ho19 (fun K hK => ?hstep19) AllReadyH.nil
          case ho19 => simp only [List.getElem?_toArray]; rfl
          go_simp
          refine (HFR.out v2 ((HX1.out.trans hxt))).mono ?_
          rintro e v3 ⟨rfl, hx3⟩
          have HC3 := Lib.hid (HC.out.ext (hxt.trans hx3))
          have HS3 := Lib.hid ((RStep.ext HX1.out).trans (RStep.ext (rl := rl) (rg := rg) (rv := rv) (hxt.trans hx3)))
          refine hK.out _ _ (HC3.out.cells.1) (fun hHeld => ?_)
          clear hK K
          try simp only [Act.put, List.setIfInBounds_toArray, List.set_cons_zero, List.set_cons_succ]
          refine wpAnyH_ready (rs := [6]) (by kernel_rfl) (by simp) ?_
          refine' AllReadyH.cons (o := _) ?ho21 (fun K hK => ?hstep21) AllReadyH.nil
          case ho21 => simp only [List.getElem?_toArray]; rfl
          go_simp
          refine (rLay_any rg s.t fs v3 HC3.out.file (by omega)).mono ?_
          rintro e w2 ⟨rfl, hk2, hf2⟩
          have hly : layR s.t fs = (0, { s.t with other := some (fs, 0) }) := if_neg (by omega)
          rw [hly] at hf2 ⊢
          have HC2 := Lib.hid (HC3.out.filed hk2 hf2)
          have HS2 := Lib.hid (HS3.out.trans (RStep.file hk2))
          have HOK2 : Hid (St.Ok { s.t with other := some (fs, 0) }) := Lib.hid (by
            have := HOK.out.lay fs
            rwa [hly] at this)
          refine hK.out _ _ (HC2.out.cells.1) (fun hHeld => ?_)
          clear hK K
          try simp only [Act.put, List.setIfInBounds_toArray, List.set_cons_zero, List.set_cons_succ]
          refine' wpAnyH_take (i := 7) (oi := _) (v := _) ?hi23 ?hs23 ?hf23 ?hr23 ?hQ23 (Or.inl ⟨?hw23, ?hy23⟩) (by assumption) ?hrest23
          case hi23 => simp only [List.getElem?_toArray]; rfl
          case hs23 => kernel_rfl
          case hf23 => kernel_rfl
          case hr23 => kernel_rfl
          case hQ23 => exact fun _ _ _ h => h
          case hw23 => rfl
          case hy23 => intro w hSw; (try dsimp only at hSw); go_simp; try with_reducible rfl
          try simp only [Act.put, List.setIfInBounds_toArray, List.set_cons_zero, List.set_cons_succ]
          refine wpAnyH_done (by kernel_rfl) ?_ _
          clear c0 c1 c2 c3 hHeld hxt hx3 hk2 hf2 hly HC HC3 HS3
          obtain ⟨c0, c1, c2, c3⟩ := HC2.out.cells
          have f3 := heap_frozen HC2.out.blk 3
          have HD := Lib.hid ((HS2.out.trans (RStep.word 3 (.bool true))).did (HC2.out.worded (n := s.sure) (b := true) 3 (.bool true) rfl))
          go_wp2_with fail
          go_ret
          rw [HR.out]
          exact ⟨rfl, HD.out⟩
        · have HR : Hid (rewL s l 2 = (12, { s with t := (flushR { s.t with other := some (fs, 0) }).2, halted := true })) := Lib.hid (by rw [hrl, if_pos (by decide)]; rfl)
          clear hrl hn0 hn0J
          obtain ⟨c0, c1, c2, c3⟩ := HC.out.cells
          go_upto_region 11 with fail
          refine wp_region_held_drew (S := fun wz => wz.cell? ⟨rl, 0, none⟩ = some (.pointer (some ⟨rg, 0, none⟩))) (by kernel_rfl) c0 (fun hHeld => ?_)
          have hxt : Ext w1 w1.drew := Ext.drew _
          generalize w1.drew = v2 at hxt hHeld ⊢
          refine' wpAnyH_take (i := 0) (oi := _) (v := _) ?hi25 ?hs25 ?hf25 ?hr25 ?hQ25 (Or.inl ⟨?hw25, ?hy25⟩) (by assumption) ?hrest25
          case hi25 => simp only [List.getElem?_toArray]; rfl
          case hs25 => kernel_rfl
          case hf25 => kernel_rfl
          case hr25 => kernel_rfl
          case hQ25 => exact fun _ _ _ h => h
          case hw25 => rfl
          case hy25 => intro w hSw; (try dsimp only at hSw); go_simp; try with_reducible rfl
          try simp only [Act.put, List.setIfInBounds_toArray, List.set_cons_zero, List.set_cons_succ]
          refine' wpAnyH_take (i := 1) (oi := _) (v := _) ?hi26 ?hs26 ?hf26 ?hr26 ?hQ26 (Or.inl ⟨?hw26, ?hy26⟩) (by assumption) ?hrest26
          case hi26 => simp only [List.getElem?_toArray]; rfl
          case hs26 => kernel_rfl
          case hf26 => kernel_rfl
          case hr26 => kernel_rfl
          case hQ26 => exact fun _ _ _ h => h
          case hw26 => rfl
          case hy26 => intro w hSw; (try dsimp only at hSw); go_simp; try with_reducible rfl
          try simp only [Act.put, List.setIfInBounds_toArray, List.set_cons_zero, List.set_cons_succ]
          refine' wpAnyH_take (i := 2) (oi := _) (v := _) ?hi27 ?hs27 ?hf27 ?hr27 ?hQ27 (Or.inl ⟨?hw27, ?hy27⟩) (by assumption) ?hrest27
          case hi27 => simp only [List.getElem?_toArray]; rfl
          case hs27 => kernel_rfl
          case hf27 => kernel_rfl
          case hr27 => kernel_rfl
          case hQ27 => exact fun _ _ _ h => h
          case hw27 => rfl
          case hy27 => intro w hSw; (try dsimp only at hSw); go_simp; try with_reducible rfl
          try simp only [Act.put, List.setIfInBounds_toArray, List.set_cons_zero, List.set_cons_succ]
          refine' wpAnyH_take (i := 3) (oi := _) (v := _) ?hi28 ?hs28 ?hf28 ?hr28 ?hQ28 (Or.inl ⟨?hw28, ?hy28⟩) (by assumption) ?hrest28
          case hi28 => simp only [List.getElem?_toArray]; rfl
          case hs28 => kernel_rfl
          case hf28 => kernel_rfl
          case hr28 => kernel_rfl
          case hQ28 => exact fun _ _ _ h => h
          case hw28 => rfl
          case hy28 => intro w hSw; (try dsimp only at hSw); go_simp; try with_reducible rfl
          try simp only [Act.put, List.setIfInBounds_toArray, List.set_cons_zero, List.set_cons_succ]
          refine' wpAnyH_take (i := 4) (oi := _) (v := _) ?hi29 ?hs29 ?hf29 ?hr29 ?hQ29 (Or.inl ⟨?hw29, ?hy29⟩) (by assumption) ?hrest29
          case hi29 => simp only [List.getElem?_toArray]; rfl
          case hs29 => kernel_rfl
          case hf29 => kernel_rfl
          case hr29 => kernel_rfl
          case hQ29 => exact fun _ _ _ h => h
          case hw29 => rfl
          case hy29 => intro w hSw; (try dsimp only at hSw); go_simp; try with_reducible rfl
          try simp only [Act.put, List.setIfInBounds_toArray, List.set_cons_zero, List.set_cons_succ]
          refine wpAnyH_ready (rs := [5]) (by kernel_rfl) (by simp) ?_
          refine' AllReadyH.cons (o := _) ?ho30 (fun K hK => ?hstep30) AllReadyH.nil
          case ho30 => simp only [List.getElem?_toArray]; rfl
          go_simp
          refine (HFR.out v2 ((HX1.out.trans hxt))).mono ?_
          rintro e v3 ⟨rfl, hx3⟩
          have HC3 := Lib.hid (HC.out.ext (hxt.trans hx3))
          have HS3 := Lib.hid ((RStep.ext HX1.out).trans (RStep.ext (rl := rl) (rg := rg) (rv := rv) (hxt.trans hx3)))
          refine hK.out _ _ (HC3.out.cells.1) (fun hHeld => ?_)
          clear hK K
          try simp only [Act.put, List.setIfInBounds_toArray, List.set_cons_zero, List.set_cons_succ]
          refine wpAnyH_ready (rs := [6]) (by kernel_rfl) (by simp) ?_
          refine' AllReadyH.cons (o := _) ?ho32 (fun K hK => ?hstep32) AllReadyH.nil
          case ho32 => simp only [List.getElem?_toArray]; rfl
          go_simp
          refine (rLay_any rg s.t fs v3 HC3.out.file (by omega)).mono ?_
          rintro e w2 ⟨rfl, hk2, hf2⟩
          have hly : layR s.t fs = (0, { s.t with other := some (fs, 0) }) := if_neg (by omega)
          rw [hly] at hf2 ⊢
          have HC2 := Lib.hid (HC3.out.filed hk2 hf2)
          have HS2 := Lib.hid (HS3.out.trans (RStep.file hk2))
          have HOK2 : Hid (St.Ok { s.t with other := some (fs, 0) }) := Lib.hid (by
            have := HOK.out.lay fs
            rwa [hly] at this)
          refine hK.out _ _ (HC2.out.cells.1) (fun hHeld => ?_)
          clear hK K
          try simp only [Act.put, List.setIfInBounds_toArray, List.set_cons_zero, List.set_cons_succ]
          refine' wpAnyH_take (i := 7) (oi := _) (v := _) ?hi34 ?hs34 ?hf34 ?hr34 ?hQ34 (Or.inl ⟨?hw34, ?hy34⟩) (by assumption) ?hrest34
          case hi34 => simp only [List.getElem?_toArray]; rfl
          case hs34 => kernel_rfl
          case hf34 => kernel_rfl
          case hr34 => kernel_rfl
          case hQ34 => exact fun _ _ _ h => h
          case hw34 => rfl
          case hy34 => intro w hSw; (try dsimp only at hSw); go_simp; try with_reducible rfl
          try simp only [Act.put, List.setIfInBounds_toArray, List.set_cons_zero, List.set_cons_succ]
          refine wpAnyH_done (by kernel_rfl) ?_ _
          clear c0 c1 c2 c3 hHeld hxt hx3 hk2 hf2 hly HC HC3 HS3
          obtain ⟨c0, c1, c2, c3⟩ := HC2.out.cells
          go_wp2_with fail
          refine (rFlush_any rg _ _ HC2.out.file HOK2.out).mono ?_
          rintro e w3 ⟨rfl, hk3, hf3⟩
          have HC3 := Lib.hid (HC2.out.filed hk3 hf3)
          have HS3 := Lib.hid (HS2.out.trans (RStep.file hk3))
          clear c0 c1 c2 c3 hk3 hf3 HC2 HS2
          obtain ⟨c0, c1, c2, c3⟩ := HC3.out.cells
          have f3 := heap_frozen HC3.out.blk 3
          have HD := Lib.hid ((HS3.out.trans (RStep.word 3 (.bool true))).did (HC3.out.worded (n := s.sure) (b := true) 3 (.bool true) rfl))
          go_wp2_with fail
          go_ret
          rw [HR.out]
          exact ⟨rfl, HD.out⟩
        · have HR : Hid (rewL s l 3 = (12, { s with t := (renameR (flushR { s.t with other := some (fs, 0) }).2).2, halted := true })) := Lib.hid (by rw [hrl, if_pos (by decide)]; rfl)
          clear hrl hn0 hn0J
          obtain ⟨c0, c1, c2, c3⟩ := HC.out.cells
          go_upto_region 11 with fail
          refine wp_region_held_drew (S := fun wz => wz.cell? ⟨rl, 0, none⟩ = some (.pointer (some ⟨rg, 0, none⟩))) (by kernel_rfl) c0 (fun hHeld => ?_)
          have hxt : Ext w1 w1.drew := Ext.drew _
          generalize w1.drew = v2 at hxt hHeld ⊢
          refine' wpAnyH_take (i := 0) (oi := _) (v := _) ?hi36 ?hs36 ?hf36 ?hr36 ?hQ36 (Or.inl ⟨?hw36, ?hy36⟩) (by assumption) ?hrest36
          case hi36 => simp only [List.getElem?_toArray]; rfl
          case hs36 => kernel_rfl
          case hf36 => kernel_rfl
          case hr36 => kernel_rfl
          case hQ36 => exact fun _ _ _ h => h
          case hw36 => rfl
          case hy36 => intro w hSw; (try dsimp only at hSw); go_simp; try with_reducible rfl
          try simp only [Act.put, List.setIfInBounds_toArray, List.set_cons_zero, List.set_cons_succ]
          refine' wpAnyH_take (i := 1) (oi := _) (v := _) ?hi37 ?hs37 ?hf37 ?hr37 ?hQ37 (Or.inl ⟨?hw37, ?hy37⟩) (by assumption) ?hrest37
          case hi37 => simp only [List.getElem?_toArray]; rfl
          case hs37 => kernel_rfl
          case hf37 => kernel_rfl
          case hr37 => kernel_rfl
          case hQ37 => exact fun _ _ _ h => h
          case hw37 => rfl
          case hy37 => intro w hSw; (try dsimp only at hSw); go_simp; try with_reducible rfl
          try simp only [Act.put, List.setIfInBounds_toArray, List.set_cons_zero, List.set_cons_succ]
          refine' wpAnyH_take (i := 2) (oi := _) (v := _) ?hi38 ?hs38 ?hf38 ?hr38 ?hQ38 (Or.inl ⟨?hw38, ?hy38⟩) (by assumption) ?hrest38
          case hi38 => simp only [List.getElem?_toArray]; rfl
          case hs38 => kernel_rfl
          case hf38 => kernel_rfl
          case hr38 => kernel_rfl
          case hQ38 => exact fun _ _ _ h => h
          case hw38 => rfl
          case hy38 => intro w hSw; (try dsimp only at hSw); go_simp; try with_reducible rfl
          try simp only [Act.put, List.setIfInBounds_toArray, List.set_cons_zero, List.set_cons_succ]
          refine' wpAnyH_take (i := 3) (oi := _) (v := _) ?hi39 ?hs39 ?hf39 ?hr39 ?hQ39 (Or.inl ⟨?hw39, ?hy39⟩) (by assumption) ?hrest39
          case hi39 => simp only [List.getElem?_toArray]; rfl
          case hs39 => kernel_rfl
          case hf39 => kernel_rfl
          case hr39 => kernel_rfl
          case hQ39 => exact fun _ _ _ h => h
          case hw39 => rfl
          case hy39 => intro w hSw; (try dsimp only at hSw); go_simp; try with_reducible rfl
          try simp only [Act.put, List.setIfInBounds_toArray, List.set_cons_zero, List.set_cons_succ]
          refine' wpAnyH_take (i := 4) (oi := _) (v := _) ?hi40 ?hs40 ?hf40 ?hr40 ?hQ40 (Or.inl ⟨?hw40, ?hy40⟩) (by assumption) ?hrest40
          case hi40 => simp only [List.getElem?_toArray]; rfl
          case hs40 => kernel_rfl
          case hf40 => kernel_rfl
          case hr40 => kernel_rfl
          case hQ40 => exact fun _ _ _ h => h
          case hw40 => rfl
          case hy40 => intro w hSw; (try dsimp only at hSw); go_simp; try with_reducible rfl
          try simp only [Act.put, List.setIfInBounds_toArray, List.set_cons_zero, List.set_cons_succ]
          refine wpAnyH_ready (rs := [5]) (by kernel_rfl) (by simp) ?_
          refine' AllReadyH.cons (o := _) ?ho41 (fun K hK => ?hstep41) AllReadyH.nil
          case ho41 => simp only [List.getElem?_toArray]; rfl
          go_simp
          refine (HFR.out v2 ((HX1.out.trans hxt))).mono ?_
          rintro e v3 ⟨rfl, hx3⟩
          have HC3 := Lib.hid (HC.out.ext (hxt.trans hx3))
          have HS3 := Lib.hid ((RStep.ext HX1.out).trans (RStep.ext (rl := rl) (rg := rg) (rv := rv) (hxt.trans hx3)))
          refine hK.out _ _ (HC3.out.cells.1) (fun hHeld => ?_)
          clear hK K
          try simp only [Act.put, List.setIfInBounds_toArray, List.set_cons_zero, List.set_cons_succ]
          refine wpAnyH_ready (rs := [6]) (by kernel_rfl) (by simp) ?_
          refine' AllReadyH.cons (o := _) ?ho43 (fun K hK => ?hstep43) AllReadyH.nil
          case ho43 => simp only [List.getElem?_toArray]; rfl
          go_simp
          refine (rLay_any rg s.t fs v3 HC3.out.file (by omega)).mono ?_
          rintro e w2 ⟨rfl, hk2, hf2⟩
          have hly : layR s.t fs = (0, { s.t with other := some (fs, 0) }) := if_neg (by omega)
          rw [hly] at hf2 ⊢
          have HC2 := Lib.hid (HC3.out.filed hk2 hf2)
          have HS2 := Lib.hid (HS3.out.trans (RStep.file hk2))
          have HOK2 : Hid (St.Ok { s.t with other := some (fs, 0) }) := Lib.hid (by
            have := HOK.out.lay fs
            rwa [hly] at this)
          refine hK.out _ _ (HC2.out.cells.1) (fun hHeld => ?_)
          clear hK K
          try simp only [Act.put, List.setIfInBounds_toArray, List.set_cons_zero, List.set_cons_succ]
          refine' wpAnyH_take (i := 7) (oi := _) (v := _) ?hi45 ?hs45 ?hf45 ?hr45 ?hQ45 (Or.inl ⟨?hw45, ?hy45⟩) (by assumption) ?hrest45
          case hi45 => simp only [List.getElem?_toArray]; rfl
          case hs45 => kernel_rfl
          case hf45 => kernel_rfl
          case hr45 => kernel_rfl
          case hQ45 => exact fun _ _ _ h => h
          case hw45 => rfl
          case hy45 => intro w hSw; (try dsimp only at hSw); go_simp; try with_reducible rfl
          try simp only [Act.put, List.setIfInBounds_toArray, List.set_cons_zero, List.set_cons_succ]
          refine wpAnyH_done (by kernel_rfl) ?_ _
          clear c0 c1 c2 c3 hHeld hxt hx3 hk2 hf2 hly HC HC3 HS3
          obtain ⟨c0, c1, c2, c3⟩ := HC2.out.cells
          go_wp2_with fail
          refine (rFlush_any rg _ _ HC2.out.file HOK2.out).mono ?_
          rintro e w3 ⟨rfl, hk3, hf3⟩
          have HC3 := Lib.hid (HC2.out.filed hk3 hf3)
          have HS3 := Lib.hid (HS2.out.trans (RStep.file hk3))
          clear c0 c1 c2 c3 hk3 hf3 HC2 HS2
          obtain ⟨c0, c1, c2, c3⟩ := HC3.out.cells
          go_wp2_with fail
          refine (rRename_any rg _ _ HC3.out.file).mono ?_
          rintro e w4 ⟨rfl, hk4, hf4⟩
          have HC4 := Lib.hid (HC3.out.filed hk4 hf4)
          have HS4 := Lib.hid (HS3.out.trans (RStep.file hk4))
          clear c0 c1 c2 c3 hk4 hf4 HC3 HS3
          obtain ⟨c0, c1, c2, c3⟩ := HC4.out.cells
          have f3 := heap_frozen HC4.out.blk 3
          have HD := Lib.hid ((HS4.out.trans (RStep.word 3 (.bool true))).did (HC4.out.worded (n := s.sure) (b := true) 3 (.bool true) rfl))
          go_wp2_with fail
          go_ret
          rw [HR.out]
          exact ⟨rfl, HD.out⟩
        · have HRT : Hid (rewT s.t fs n = (renameR (flushR { s.t with other := some (fs, 0) }).2).2) := Lib.hid (by unfold rewT; rw [if_pos (by omega), if_pos (by omega), if_pos (by omega)])
          have HR : Hid (rewL s l n = (0, { s with l := l, sure := l.length, t := syncT (renameR (flushR { s.t with other := some (fs, 0) }).2).2 })) := Lib.hid (by rw [hrl, if_neg (by omega), HRT.out])
          have hg1 : decide ((1 : Int) ≤ n) = true := decide_eq_true (by omega)
          have hg2 : decide ((2 : Int) ≤ n) = true := decide_eq_true (by omega)
          have hg3 : decide ((3 : Int) ≤ n) = true := decide_eq_true (by omega)
          have hg4 : decide (n < 4) = false := decide_eq_false (by omega)
          clear hrl hn0 HRT hn4
          obtain ⟨c0, c1, c2, c3⟩ := HC.out.cells
          go_upto_region 11 with fail
          refine wp_region_held_drew (S := fun wz => wz.cell? ⟨rl, 0, none⟩ = some (.pointer (some ⟨rg, 0, none⟩))) (by kernel_rfl) c0 (fun hHeld => ?_)
          have hxt : Ext w1 w1.drew := Ext.drew _
          generalize w1.drew = v2 at hxt hHeld ⊢
          refine' wpAnyH_take (i := 0) (oi := _) (v := _) ?hi47 ?hs47 ?hf47 ?hr47 ?hQ47 (Or.inl ⟨?hw47, ?hy47⟩) (by assumption) ?hrest47
          case hi47 => simp only [List.getElem?_toArray]; rfl
          case hs47 => kernel_rfl
          case hf47 => kernel_rfl
          case hr47 => kernel_rfl
          case hQ47 => exact fun _ _ _ h => h
          case hw47 => rfl
          case hy47 => intro w hSw; (try dsimp only at hSw); go_simp; try with_reducible rfl
          try simp only [Act.put, List.setIfInBounds_toArray, List.set_cons_zero, List.set_cons_succ]
          refine' wpAnyH_take (i := 1) (oi := _) (v := _) ?hi48 ?hs48 ?hf48 ?hr48 ?hQ48 (Or.inl ⟨?hw48, ?hy48⟩) (by assumption) ?hrest48
          case hi48 => simp only [List.getElem?_toArray]; rfl
          case hs48 => kernel_rfl
          case hf48 => kernel_rfl
          case hr48 => kernel_rfl
          case hQ48 => exact fun _ _ _ h => h
          case hw48 => rfl
          case hy48 => intro w hSw; (try dsimp only at hSw); go_simp; try with_reducible rfl
          try simp only [Act.put, List.setIfInBounds_toArray, List.set_cons_zero, List.set_cons_succ]
          refine' wpAnyH_take (i := 2) (oi := _) (v := _) ?hi49 ?hs49 ?hf49 ?hr49 ?hQ49 (Or.inl ⟨?hw49, ?hy49⟩) (by assumption) ?hrest49
          case hi49 => simp only [List.getElem?_toArray]; rfl
          case hs49 => kernel_rfl
          case hf49 => kernel_rfl
          case hr49 => kernel_rfl
          case hQ49 => exact fun _ _ _ h => h
          case hw49 => rfl
          case hy49 => intro w hSw; (try dsimp only at hSw); go_simp; try with_reducible rfl
          try simp only [Act.put, List.setIfInBounds_toArray, List.set_cons_zero, List.set_cons_succ]
          refine' wpAnyH_take (i := 3) (oi := _) (v := _) ?hi50 ?hs50 ?hf50 ?hr50 ?hQ50 (Or.inl ⟨?hw50, ?hy50⟩) (by assumption) ?hrest50
          case hi50 => simp only [List.getElem?_toArray]; rfl
          case hs50 => kernel_rfl
          case hf50 => kernel_rfl
          case hr50 => kernel_rfl
          case hQ50 => exact fun _ _ _ h => h
          case hw50 => rfl
          case hy50 => intro w hSw; (try dsimp only at hSw); go_simp; try with_reducible rfl
          try simp only [Act.put, List.setIfInBounds_toArray, List.set_cons_zero, List.set_cons_succ]
          refine' wpAnyH_take (i := 4) (oi := _) (v := _) ?hi51 ?hs51 ?hf51 ?hr51 ?hQ51 (Or.inl ⟨?hw51, ?hy51⟩) (by assumption) ?hrest51
          case hi51 => simp only [List.getElem?_toArray]; rfl
          case hs51 => kernel_rfl
          case hf51 => kernel_rfl
          case hr51 => kernel_rfl
          case hQ51 => exact fun _ _ _ h => h
          case hw51 => rfl
          case hy51 => intro w hSw; (try dsimp only at hSw); go_simp; try with_reducible rfl
          try simp only [Act.put, List.setIfInBounds_toArray, List.set_cons_zero, List.set_cons_succ]
          refine wpAnyH_ready (rs := [5]) (by kernel_rfl) (by simp) ?_
          refine' AllReadyH.cons (o := _) ?ho52 (fun K hK => ?hstep52) AllReadyH.nil
          case ho52 => simp only [List.getElem?_toArray]; rfl
          go_simp
          refine (HFR.out v2 ((HX1.out.trans hxt))).mono ?_
          rintro e v3 ⟨rfl, hx3⟩
          have HC3 := Lib.hid (HC.out.ext (hxt.trans hx3))
          have HS3 := Lib.hid ((RStep.ext HX1.out).trans (RStep.ext (rl := rl) (rg := rg) (rv := rv) (hxt.trans hx3)))
          refine hK.out _ _ (HC3.out.cells.1) (fun hHeld => ?_)
          clear hK K
          try simp only [Act.put, List.setIfInBounds_toArray, List.set_cons_zero, List.set_cons_succ]
          refine wpAnyH_ready (rs := [6]) (by kernel_rfl) (by simp) ?_
          refine' AllReadyH.cons (o := _) ?ho54 (fun K hK => ?hstep54) AllReadyH.nil
          case ho54 => simp only [List.getElem?_toArray]; rfl
          go_simp
          refine (rLay_any rg s.t fs v3 HC3.out.file (by omega)).mono ?_
          rintro e w2 ⟨rfl, hk2, hf2⟩
          have hly : layR s.t fs = (0, { s.t with other := some (fs, 0) }) := if_neg (by omega)
          rw [hly] at hf2 ⊢
          have HC2 := Lib.hid (HC3.out.filed hk2 hf2)
          have HS2 := Lib.hid (HS3.out.trans (RStep.file hk2))
          have HOK2 : Hid (St.Ok { s.t with other := some (fs, 0) }) := Lib.hid (by
            have := HOK.out.lay fs
            rwa [hly] at this)
          refine hK.out _ _ (HC2.out.cells.1) (fun hHeld => ?_)
          clear hK K
          try simp only [Act.put, List.setIfInBounds_toArray, List.set_cons_zero, List.set_cons_succ]
          refine' wpAnyH_take (i := 7) (oi := _) (v := _) ?hi56 ?hs56 ?hf56 ?hr56 ?hQ56 (Or.inl ⟨?hw56, ?hy56⟩) (by assumption) ?hrest56
          case hi56 => simp only [List.getElem?_toArray]; rfl
          case hs56 => kernel_rfl
          case hf56 => kernel_rfl
          case hr56 => kernel_rfl
          case hQ56 => exact fun _ _ _ h => h
          case hw56 => rfl
          case hy56 => intro w hSw; (try dsimp only at hSw); go_simp; try with_reducible rfl
          try simp only [Act.put, List.setIfInBounds_toArray, List.set_cons_zero, List.set_cons_succ]
          refine wpAnyH_done (by kernel_rfl) ?_ _
          clear c0 c1 c2 c3 hHeld hxt hx3 hk2 hf2 hly HC HC3 HS3
          have HOK3 := Lib.hid HOK2.out.flush
          obtain ⟨c0, c1, c2, c3⟩ := HC2.out.cells
          go_wp2_with fail
          refine (rFlush_any rg _ _ HC2.out.file HOK2.out).mono ?_
          rintro e w3 ⟨rfl, hk3, hf3⟩
          have HC3 := Lib.hid (HC2.out.filed hk3 hf3)
          have HS3 := Lib.hid (HS2.out.trans (RStep.file hk3))
          clear c0 c1 c2 c3 hk3 hf3 HC2 HS2
          have HOK4 := Lib.hid HOK3.out.rename
          obtain ⟨c0, c1, c2, c3⟩ := HC3.out.cells
          go_wp2_with fail
          refine (rRename_any rg _ _ HC3.out.file).mono ?_
          rintro e w4 ⟨rfl, hk4, hf4⟩
          have HC4 := Lib.hid (HC3.out.filed hk4 hf4)
          have HS4 := Lib.hid (HS3.out.trans (RStep.file hk4))
          clear c0 c1 c2 c3 hk4 hf4 HC3 HS3
          generalize (renameR (flushR { s.t with other := some (fs, 0) }).2).2 = t4 at HC4 HR HOK4
          obtain ⟨c0, c1, c2, c3⟩ := HC4.out.cells
          go_wp2_with fail
          refine (rSync_any rg _ _ HC4.out.file HOK4.out.text.1).mono ?_
          rintro e w5 ⟨rfl, hk5, hf5⟩
          have HC5 := Lib.hid (HC4.out.filed hk5 hf5)
          have HS5 := Lib.hid (HS4.out.trans (RStep.file hk5))
          clear c0 c1 c2 c3 hk5 hf5 HC4 HS4
          obtain ⟨c0, c1, c2, c3⟩ := HC5.out.cells
          obtain ⟨A', m', c', hAA, hm', _, _, hr'⟩ := HV.out _ HS5.out.1
          cases hAA
          have HRD5 := Lib.hid hr'
          clear hm' hr'
          go_upto_region 23 with (first
            | (at_builtin
               refine app_strs (w5.alloc (.cells #[] 9)) rfl (.tmp 64) (.tmp 65) rfl w5 (.slice (some ⟨w5.heap.size, 0, none⟩) 0 0) [] rfl (own_empty w5) A k c l rfl hlm (HRD5.out.ext (Ext.alloc w5 _)) (by simp; omega) (Ext.alloc w5 _) ?_
               intro v6 w6 hown hext
               obtain ⟨A6, m6, k6, rfl⟩ := own_shape hown
               have hown' : w6.ownsRow w5.heap.size 9 1 (.slice A6 m6 k6) l.length (l.map .string) := by simpa [Own] using hown
               have hb6 := (Kp.of_ext (L := []) hext).heap HC5.out.blk (by simp)
               have HN := Lib.hid (HC5.out.newrow (l' := l) hext (own_base hown') (own_new hown'))
               clear c0 c1 c2 c3 hown hown' hext
               have c1 := heap_cell hb6 1
               have f1 := heap_frozen hb6 1
               clear hb6))
          clear c1 f1
          have HC6 := Lib.hid HN.out.1
          have HS6 := Lib.hid (HS5.out.trans HN.out.2)
          clear HN HC5 HS5
          generalize w6.setCell ⟨rl, 1, none⟩ (.slice A6 m6 k6) = w7 at HC6 HS6 ⊢
          obtain ⟨c0, c1, c2, c3⟩ := HC6.out.cells
          have f2 := heap_frozen HC6.out.blk 2
          have HC7 := Lib.hid (HC6.out.worded (n := l.length) (b := s.halted) 2 (.int .i64 (l.length : Int)) rfl)
          have HS7 : Hid (RStep w (w7.setCell ⟨rl, 2, none⟩ (.int .i64 (l.length : Int))) rl rg rv (.slice A6 m6 k6)) := Lib.hid (HS6.out.trans (RStep.word 2 _))
          rw [hlm] at HC7 HS7
          have HD := Lib.hid (HS7.out.did HC7.out)
          rw [hlm] at HR
          clear HC6 HS6 HC7 HS7
          go_wp2_with fail
          go_ret
          rw [HR.out]
          exact ⟨rfl, HD.out⟩
end Go.Proofs.Ytdndeggognfcaaa
