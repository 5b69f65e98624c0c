/- The law's rows: commands and replies handed to the document; words; are they alike. -/
import Derived.Test.YtdbboooblbdihaaRspP
import Derived.Test.YtdbboooblbdihaaRspR
import Derived.Test.YtdbboooblbdihaaRspK
import Derived.StillTailTactics
namespace Go.Proofs.Ytdbboooblbdihaa
open Go.RowKit
set_option linter.unusedVariables false
set_option linter.unusedSectionVars false
set_option linter.unusedSimpArgs false
set_option maxRecDepth 100000


theorem itC_one : ∀ (x : Itm), ∀ u ∈ itC x, u.oneCell' = true := by
  intro x u hu
  simp [itC] at hu
  rcases hu with rfl | rfl | rfl <;> rfl
theorem Try.ritemInfo : (Try.prog.info? 74).map (fun i => (i.zero, i.size, i.bytes)) = some (some (.agg #[.int .i64 0, .int .i64 0, .string ByteArray.empty]), 3, 32) := by kernel_rfl
set_option maxHeartbeats 1000000 in
theorem litems_any (v : Value) (L : List Itm) (w : World) (h : Row itC w v L) (hlen : L.length ≤ 1000000000) :
    Calls Try.prog 24 #[v] w fun e w' => ∃ u, e = .returned u ∧ Row itC w' u L ∧ Ext w w' := by
  obtain ⟨i1, hi1, hz3, hz4, hz5⟩ := info_parts Try.ritemInfo
  obtain ⟨A, n, c, rfl, hn, hnc, hcm, hr⟩ := h
  have HR := Lib.hid hr
  have HN := Lib.hid hn
  clear hr hn
  have hn1 : n ≤ 1000000000 := by rw [← HN.out]; exact hlen
  go_enter Try.func24, Try.ntmps24
  go_wp2_with fail
  go_loopw [3, 4] (fun o i wr => ∃ k : Nat, k ≤ n ∧ i = .int .i64 (k : Int) ∧ wr.ownsRow w.heap.size 74 3 o (L.take k).length ((L.take k).flatMap itC) ∧ Ext w wr) (fun _ i _ => n - (intOf i).toNat)
  case atStart => exact ⟨0, by omega, rfl, World.ownsRow_nil _ _ _ _, Ext.refl _⟩
  case round =>
    obtain ⟨k, hk, rfl, hown, hext⟩ := hrel
    by_cases hkn : k < n
    · have hkI : (k : Int) < (n : Int) := by omega
      have hkJ : (0 : Int) ≤ (k : Int) := by omega
      obtain ⟨q, hq⟩ : ∃ q, L[k]? = some q := ⟨_, List.getElem?_eq_getElem (by have := HN.out; omega)⟩
      obtain ⟨ad, rfl⟩ : ∃ ad, A = some ad := row_some HR.out itC_len (by decide) (by have := HN.out; omega)
      have hrw := HR.out.ext hext
      have hst : L.take k ++ [q] = L.take (k + 1) := by rw [List.take_add_one, hq]; rfl
      have hlk : (L.take k).length = k := by rw [List.length_take, HN.out]; omega
      obtain ⟨c0, c1, c2⟩ := row_parts hrw hq
      have HQ := Lib.hid hq
      obtain ⟨A3, c3, hv3⟩ := own_len hown
      rw [hlk] at hv3
      subst hv3
      obtain ⟨kd, xn, s⟩ := q
      dsimp only at c0 c1 c2
      have HO := Lib.hid hown
      have HE := Lib.hid hext
      have HST := Lib.hid hst
      have HLK := Lib.hid hlk
      clear hrw hq hst hlk hown hext
      go_upto_region 5 with fail
      refine wp_region_held_drew (S := fun wz => wz.cell? (ad.add (k * 3)) = some (.int .i64 kd) ∧ wz.cell? ⟨(ad.add (k * 3)).block, (ad.add (k * 3)).off + 1, none⟩ = some (.int .i64 xn) ∧ wz.cell? ⟨(ad.add (k * 3)).block, (ad.add (k * 3)).off + 2, none⟩ = some (.string s)) (by kernel_rfl) ⟨c0, c1, c2⟩ (fun hHeld => ?_)
      have hxt : Ext wr wr.drew := Ext.drew _
      generalize wr.drew = v1 at hxt hHeld ⊢
      have HS := Lib.hid hHeld
      have HOD := Lib.hid (row_kp HO.out (Kp.of_ext (L := []) hxt) (by simp))
      have HED := Lib.hid (HE.out.trans hxt)
      clear c0 c1 c2 hxt
      refine' wpAnyH_take (i := 0) (oi := _) (v := _) ?hi1 ?hs1 ?hf1 ?hr1 ?hQ1 (Or.inl ⟨?hw1, ?hy1⟩) (by assumption) ?hrest1
      case hi1 => simp only [List.getElem?_toArray]; rfl
      case hs1 => kernel_rfl
      case hf1 => kernel_rfl
      case hr1 => kernel_rfl
      case hQ1 => exact fun _ _ _ h => h
      case hw1 => rfl
      case hy1 => intro w hSw; (try dsimp only at hSw); go_simp; try with_reducible rfl
      try simp only [Act.put, List.setIfInBounds_toArray, List.set_cons_zero, List.set_cons_succ]
      refine' wpAnyH_take (i := 1) (oi := _) (v := _) ?hi2 ?hs2 ?hf2 ?hr2 ?hQ2 (Or.inl ⟨?hw2, ?hy2⟩) (by assumption) ?hrest2
      case hi2 => simp only [List.getElem?_toArray]; rfl
      case hs2 => kernel_rfl
      case hf2 => kernel_rfl
      case hr2 => kernel_rfl
      case hQ2 => exact fun _ _ _ h => h
      case hw2 => rfl
      case hy2 => intro w hSw; (try dsimp only at hSw); go_simp; try with_reducible rfl
      try simp only [Act.put, List.setIfInBounds_toArray, List.set_cons_zero, List.set_cons_succ]
      refine' wpAnyH_take (i := 2) (oi := _) (v := _) ?hi3 ?hs3 ?hf3 ?hr3 ?hQ3 (Or.inl ⟨?hw3, ?hy3⟩) (by assumption) ?hrest3
      case hi3 => simp only [List.getElem?_toArray]; rfl
      case hs3 => kernel_rfl
      case hf3 => kernel_rfl
      case hr3 => kernel_rfl
      case hQ3 => exact fun _ _ _ h => h
      case hw3 => rfl
      case hy3 => intro w hSw; (try dsimp only at hSw); go_simp; try with_reducible rfl
      try simp only [Act.put, List.setIfInBounds_toArray, List.set_cons_zero, List.set_cons_succ]
      refine' wpAnyH_take (i := 3) (oi := _) (v := _) ?hi4 ?hs4 ?hf4 ?hr4 ?hQ4 (Or.inl ⟨?hw4, ?hy4⟩) (by assumption) ?hrest4
      case hi4 => simp only [List.getElem?_toArray]; rfl
      case hs4 => kernel_rfl
      case hf4 => kernel_rfl
      case hr4 => kernel_rfl
      case hQ4 => exact fun _ _ _ h => h
      case hw4 => rfl
      case hy4 => intro w hSw; (try dsimp only at hSw); go_simp; try with_reducible rfl
      try simp only [Act.put, List.setIfInBounds_toArray, List.set_cons_zero, List.set_cons_succ]
      refine' wpAnyH_take (i := 4) (oi := _) (v := _) ?hi5 ?hs5 ?hf5 ?hr5 ?hQ5 (Or.inl ⟨?hw5, ?hy5⟩) (by assumption) ?hrest5
      case hi5 => simp only [List.getElem?_toArray]; rfl
      case hs5 => kernel_rfl
      case hf5 => kernel_rfl
      case hr5 => kernel_rfl
      case hQ5 => exact fun _ _ _ h => h
      case hw5 => rfl
      case hy5 => intro w hSw; (try dsimp only at hSw); go_simp; try with_reducible rfl
      try simp only [Act.put, List.setIfInBounds_toArray, List.set_cons_zero, List.set_cons_succ]
      refine' wpAnyH_take (i := 5) (oi := _) (v := _) ?hi6 ?hs6 ?hf6 ?hr6 ?hQ6 (Or.inl ⟨?hw6, ?hy6⟩) (by assumption) ?hrest6
      case hi6 => simp only [List.getElem?_toArray]; rfl
      case hs6 => kernel_rfl
      case hf6 => kernel_rfl
      case hr6 => kernel_rfl
      case hQ6 => exact fun _ _ _ h => h
      case hw6 => rfl
      case hy6 => intro w hSw; (try dsimp only at hSw); go_simp; try with_reducible rfl
      try simp only [Act.put, List.setIfInBounds_toArray, List.set_cons_zero, List.set_cons_succ]
      refine' wpAnyH_take (i := 6) (oi := _) (v := _) ?hi7 ?hs7 ?hf7 ?hr7 ?hQ7 (Or.inl ⟨?hw7, ?hy7⟩) (by assumption) ?hrest7
      case hi7 => simp only [List.getElem?_toArray]; rfl
      case hs7 => kernel_rfl
      case hf7 => kernel_rfl
      case hr7 => kernel_rfl
      case hQ7 => exact fun _ _ _ h => h
      case hw7 => rfl
      case hy7 => intro w hSw; (try dsimp only at hSw); go_simp; try with_reducible rfl
      try simp only [Act.put, List.setIfInBounds_toArray, List.set_cons_zero, List.set_cons_succ]
      refine' wpAnyH_take (i := 7) (oi := _) (v := _) ?hi8 ?hs8 ?hf8 ?hr8 ?hQ8 (Or.inl ⟨?hw8, ?hy8⟩) (by assumption) ?hrest8
      case hi8 => simp only [List.getElem?_toArray]; rfl
      case hs8 => kernel_rfl
      case hf8 => kernel_rfl
      case hr8 => kernel_rfl
      case hQ8 => exact fun _ _ _ h => h
      case hw8 => rfl
      case hy8 => intro w hSw; (try dsimp only at hSw); go_simp; try with_reducible rfl
      try simp only [Act.put, List.setIfInBounds_toArray, List.set_cons_zero, List.set_cons_succ]
      refine' wpAnyH_take (i := 8) (oi := _) (v := _) ?hi9 ?hs9 ?hf9 ?hr9 ?hQ9 (Or.inl ⟨?hw9, ?hy9⟩) (by assumption) ?hrest9
      case hi9 => simp only [List.getElem?_toArray]; rfl
      case hs9 => kernel_rfl
      case hf9 => kernel_rfl
      case hr9 => kernel_rfl
      case hQ9 => exact fun _ _ _ h => h
      case hw9 => rfl
      case hy9 => intro w hSw; (try dsimp only at hSw); go_simp; try with_reducible rfl
      try simp only [Act.put, List.setIfInBounds_toArray, List.set_cons_zero, List.set_cons_succ]
      refine' wpAnyH_take (i := 9) (oi := _) (v := _) ?hi10 ?hs10 ?hf10 ?hr10 ?hQ10 (Or.inl ⟨?hw10, ?hy10⟩) (by assumption) ?hrest10
      case hi10 => simp only [List.getElem?_toArray]; rfl
      case hs10 => kernel_rfl
      case hf10 => kernel_rfl
      case hr10 => kernel_rfl
      case hQ10 => exact fun _ _ _ h => h
      case hw10 => rfl
      case hy10 => intro w hSw; (try dsimp only at hSw); go_simp; try with_reducible rfl
      try simp only [Act.put, List.setIfInBounds_toArray, List.set_cons_zero, List.set_cons_succ]
      refine' wpAnyH_take (i := 10) (oi := _) (v := _) ?hi11 ?hs11 ?hf11 ?hr11 ?hQ11 (Or.inl ⟨?hw11, ?hy11⟩) (by assumption) ?hrest11
      case hi11 => simp only [List.getElem?_toArray]; rfl
      case hs11 => kernel_rfl
      case hf11 => kernel_rfl
      case hr11 => kernel_rfl
      case hQ11 => exact fun _ _ _ h => h
      case hw11 => rfl
      case hy11 => intro w hSw; (try dsimp only at hSw); go_simp; try with_reducible rfl
      try simp only [Act.put, List.setIfInBounds_toArray, List.set_cons_zero, List.set_cons_succ]
      refine' wpAnyH_take (i := 11) (oi := _) (v := _) ?hi12 ?hs12 ?hf12 ?hr12 ?hQ12 (Or.inl ⟨?hw12, ?hy12⟩) (by assumption) ?hrest12
      case hi12 => simp only [List.getElem?_toArray]; rfl
      case hs12 => kernel_rfl
      case hf12 => kernel_rfl
      case hr12 => kernel_rfl
      case hQ12 => exact fun _ _ _ h => h
      case hw12 => rfl
      case hy12 => intro w hSw; (try dsimp only at hSw); go_simp; try with_reducible rfl
      try simp only [Act.put, List.setIfInBounds_toArray, List.set_cons_zero, List.set_cons_succ]
      refine' wpAnyH_take (i := 12) (oi := _) (v := _) ?hi13 ?hs13 ?hf13 ?hr13 ?hQ13 (Or.inl ⟨?hw13, ?hy13⟩) (by assumption) ?hrest13
      case hi13 => simp only [List.getElem?_toArray]; rfl
      case hs13 => kernel_rfl
      case hf13 => kernel_rfl
      case hr13 => kernel_rfl
      case hQ13 => exact fun _ _ _ h => h
      case hw13 => rfl
      case hy13 => intro w hSw; (try dsimp only at hSw); go_simp; try with_reducible rfl
      try simp only [Act.put, List.setIfInBounds_toArray, List.set_cons_zero, List.set_cons_succ]
      refine' wpAnyH_take (i := 13) (oi := _) (v := _) ?hi14 ?hs14 ?hf14 ?hr14 ?hQ14 (Or.inl ⟨?hw14, ?hy14⟩) (by assumption) ?hrest14
      case hi14 => simp only [List.getElem?_toArray]; rfl
      case hs14 => kernel_rfl
      case hf14 => kernel_rfl
      case hr14 => kernel_rfl
      case hQ14 => exact fun _ _ _ h => h
      case hw14 => rfl
      case hy14 => intro w hSw; (try dsimp only at hSw); go_simp; try with_reducible rfl
      try simp only [Act.put, List.setIfInBounds_toArray, List.set_cons_zero, List.set_cons_succ]
      refine' wpAnyH_take (i := 14) (oi := _) (v := _) ?hi15 ?hs15 ?hf15 ?hr15 ?hQ15 (Or.inl ⟨?hw15, ?hy15⟩) (by assumption) ?hrest15
      case hi15 => simp only [List.getElem?_toArray]; rfl
      case hs15 => kernel_rfl
      case hf15 => kernel_rfl
      case hr15 => kernel_rfl
      case hQ15 => exact fun _ _ _ h => h
      case hw15 => rfl
      case hy15 => intro w hSw; (try dsimp only at hSw); go_simp; try with_reducible rfl
      try simp only [Act.put, List.setIfInBounds_toArray, List.set_cons_zero, List.set_cons_succ]
      refine' wpAnyH_take (i := 15) (oi := _) (v := _) ?hi16 ?hs16 ?hf16 ?hr16 ?hQ16 (Or.inl ⟨?hw16, ?hy16⟩) (by assumption) ?hrest16
      case hi16 => simp only [List.getElem?_toArray]; rfl
      case hs16 => kernel_rfl
      case hf16 => kernel_rfl
      case hr16 => kernel_rfl
      case hQ16 => exact fun _ _ _ h => h
      case hw16 => rfl
      case hy16 => intro w hSw; (try dsimp only at hSw); go_simp; try with_reducible rfl
      try simp only [Act.put, List.setIfInBounds_toArray, List.set_cons_zero, List.set_cons_succ]
      refine' wpAnyH_take (i := 16) (oi := _) (v := _) ?hi17 ?hs17 ?hf17 ?hr17 ?hQ17 (Or.inl ⟨?hw17, ?hy17⟩) (by assumption) ?hrest17
      case hi17 => simp only [List.getElem?_toArray]; rfl
      case hs17 => kernel_rfl
      case hf17 => kernel_rfl
      case hr17 => kernel_rfl
      case hQ17 => exact fun _ _ _ h => h
      case hw17 => rfl
      case hy17 => intro w hSw; (try dsimp only at hSw); go_simp; try with_reducible rfl
      try simp only [Act.put, List.setIfInBounds_toArray, List.set_cons_zero, List.set_cons_succ]
      refine wpAnyH_ready (rs := [17]) (by kernel_rfl) (by simp) ?_
      refine' AllReadyH.cons (o := _) ?ho18 (fun K hK => ?hstep18) AllReadyH.nil
      case ho18 => simp only [List.getElem?_toArray]; rfl
      go_simp
      have HSB : Hid (_ ∧ _ ∧ _) := Lib.hid (And.intro ((Ext.alloc v1 (.cells #[.int .i64 kd, .int .i64 xn, .string s] 74)).cell HS.out.1) (And.intro ((Ext.alloc v1 (.cells #[.int .i64 kd, .int .i64 xn, .string s] 74)).cell HS.out.2.1) ((Ext.alloc v1 (.cells #[.int .i64 kd, .int .i64 xn, .string s] 74)).cell HS.out.2.2)))
      refine hK.out _ _ (HSB.out) (fun hHeld => ?_)
      clear hK K
      try simp only [Act.put, List.setIfInBounds_toArray, List.set_cons_zero, List.set_cons_succ]
      refine wpAnyH_ready (rs := [18]) (by kernel_rfl) (by simp) ?_
      refine' AllReadyH.cons (o := _) ?ho20 (fun K hK => ?hstep20) AllReadyH.nil
      case ho20 => simp only [List.getElem?_toArray]; rfl
      refine step_append_rd _ rfl (.tmp 11) (.tmp 28) 50 rfl w.heap.size 74 i1 (.agg #[.int .i64 0, .int .i64 0, .string ByteArray.empty]) 3 32 Try.underlying50 hi1 hz3 hz4 hz5 rfl (by decide) (.slice A3 k c3) (L.take k).length ((L.take k).flatMap itC) rfl (by exact World.ownsRow.alloc HOD.out _) _ 1 1 (itC ⟨kd, xn, s⟩) rfl rfl (by exact Rd.new _ #[_, _, _] 74) (itC_one ⟨kd, xn, s⟩) (by rw [HLK.out]; simp only [maxLen]; omega) (by rw [HLK.out]; omega) (Nat.le_trans HED.out.size (Ext.alloc _ _).size) ?_
      intro v5 w5 happ
      have hown7 : w5.ownsRow w.heap.size 74 3 v5 (L.take (k + 1)).length ((L.take (k + 1)).flatMap itC) := by
        have := happ.own
        rw [← HST.out, List.flatMap_append, List.length_append]
        simpa using this
      have hext7 : Ext w w5 := (ap_kp happ).to_ext (HED.out.trans (Ext.alloc _ _)) (fun k hk => row_new HOD.out k (by simpa using hk))
      have HS7 := Lib.hid (row_parts (HR.out.ext hext7) HQ.out)
      have HO7 := Lib.hid hown7
      have HE7 := Lib.hid hext7
      clear happ hown7 hext7
      refine hK.out _ _ (HS7.out) (fun hHeld => ?_)
      clear hK K
      try simp only [Act.put, List.setIfInBounds_toArray, List.set_cons_zero, List.set_cons_succ]
      refine' wpAnyH_take (i := 19) (oi := _) (v := _) ?hi22 ?hs22 ?hf22 ?hr22 ?hQ22 (Or.inl ⟨?hw22, ?hy22⟩) (by assumption) ?hrest22
      case hi22 => simp only [List.getElem?_toArray]; rfl
      case hs22 => kernel_rfl
      case hf22 => kernel_rfl
      case hr22 => kernel_rfl
      case hQ22 => exact fun _ _ _ h => h
      case hw22 => rfl
      case hy22 => intro w hSw; (try dsimp only at hSw); go_simp; try with_reducible rfl
      try simp only [Act.put, List.setIfInBounds_toArray, List.set_cons_zero, List.set_cons_succ]
      refine wpAnyH_done (by kernel_rfl) ?_ _
      go_wp2_with fail
      go_roundw
      case rel => exact ⟨k + 1, by omega, by go_num, HO7.out, HE7.out⟩
      case measure => simp [intOf]; omega
    · obtain rfl : k = n := by omega
      rw [List.take_of_length_le (by rw [HN.out]; exact Nat.le_refl _)] at hown
      have HO := Lib.hid hown
      clear hown
      go_wp2_with fail
      go_ret
      exact ⟨_, rfl, own_row HO.out, hext⟩
/-- Commands that can be read. -/
def CmdsR (w : World) (u : Value) (cs : List Cmd) : Prop := ∃ xs : List CmdE, Row cmdC w u xs ∧ xs.length = cs.length ∧ ∀ (i : Nat) (x : CmdE) (c : Cmd), xs[i]? = some x → cs[i]? = some c → Txt w x.v c.ws ∧ x.e = c.e
theorem CmdsR.ext {w w' : World} {u : Value} {cs : List Cmd} (h : CmdsR w u cs) (hx : Ext w w') : CmdsR w' u cs := by
  obtain ⟨xs, h1, h2, h3⟩ := h
  exact ⟨xs, h1.ext hx, h2, fun i x c a b => ⟨(h3 i x c a b).1.ext hx, (h3 i x c a b).2⟩⟩
theorem CmdsAt.r {w0 w : World} {u : Value} {cs : List Cmd} (h : CmdsAt w0 w u cs) : CmdsR w u cs := by
  obtain ⟨xs, h1, h2⟩ := h
  exact ⟨xs, own_row h1, h2.1, fun i x c a b => ⟨(h2.2 i x c a b).1.txt, (h2.2 i x c a b).2⟩⟩
theorem RCmdsAt.r {w0 w : World} {u : Value} {cs : List Cmd} (h : RCmdsAt w0 w u cs) : CmdsR w u cs := by
  obtain ⟨xs, h1, h2⟩ := h
  exact ⟨xs, own_row h1, h2.1, fun i x c a b => ⟨(h2.2 i x c a b).1.txt, (h2.2 i x c a b).2⟩⟩
theorem cmd_parts {w : World} {xs : List CmdE} {ad : Addr} (h : Rd w (some ad) (xs.flatMap cmdC)) {i : Nat} {x : CmdE} (hx : xs[i]? = some x) :
    w.cell? (ad.add (i * 2)) = some x.v ∧ w.cell? ⟨(ad.add (i * 2)).block, (ad.add (i * 2)).off + 1, none⟩ = some (.int .i64 x.e) :=
  ⟨row_cell cmdC_len h i 0 hx rfl, row_field cmdC_len h i 1 (by decide) hx rfl⟩
set_option maxHeartbeats 1000000 in
theorem lplain_row (v : Value) (L : List CmdE) (w : World) (h : Row cmdC w v L) (hs : ∀ x ∈ L, ∃ A n c, x.v = .slice A n c) (hlen : L.length ≤ 1000000000) :
    Calls Try.prog 15 #[v] w fun e w' => ∃ u, e = .returned u ∧ Row cmdC w' u L ∧ Ext w w' := by
  obtain ⟨i1, hi1, hz3, hz4, hz5⟩ := info_parts Try.rcmdInfo
  obtain ⟨A, n, c, rfl, hn, hnc, hcm, hr⟩ := h
  have HR := Lib.hid hr
  have HN := Lib.hid hn
  have HSL := Lib.hid hs
  clear hr hn hs
  have hn1 : n ≤ 1000000000 := by rw [← HN.out]; exact hlen
  go_enter Try.func15, Try.ntmps15
  go_wp2_with fail
  go_loopw [3, 4] (fun o i wr => ∃ k : Nat, k ≤ n ∧ i = .int .i64 (k : Int) ∧ wr.ownsRow w.heap.size 61 2 o (L.take k).length ((L.take k).flatMap cmdC) ∧ Ext w wr) (fun _ i _ => n - (intOf i).toNat)
  case atStart => exact ⟨0, by omega, rfl, World.ownsRow_nil _ _ _ _, Ext.refl _⟩
  case round =>
    obtain ⟨k, hk, rfl, hown, hext⟩ := hrel
    by_cases hkn : k < n
    · have hkI : (k : Int) < (n : Int) := by omega
      have hkJ : (0 : Int) ≤ (k : Int) := by omega
      obtain ⟨q, hq⟩ : ∃ q, L[k]? = some q := ⟨_, List.getElem?_eq_getElem (by have := HN.out; omega)⟩
      obtain ⟨ad, rfl⟩ : ∃ ad, A = some ad := row_some HR.out cmdC_len (by decide) (by have := HN.out; omega)
      have hrw := HR.out.ext hext
      have hst : L.take k ++ [q] = L.take (k + 1) := by rw [List.take_add_one, hq]; rfl
      have hlk : (L.take k).length = k := by rw [List.length_take, HN.out]; omega
      obtain ⟨c0, c1⟩ := cmd_parts hrw hq
      have HQ := Lib.hid hq
      obtain ⟨A3, c3, hv3⟩ := own_len hown
      rw [hlk] at hv3
      subst hv3
      obtain ⟨sA, sn, sc, hsq⟩ := HSL.out q (List.mem_of_getElem? hq)
      obtain ⟨qv, qe⟩ := q
      dsimp only at c0 c1 hsq
      subst hsq
      have HO := Lib.hid hown
      have HE := Lib.hid hext
      have HST := Lib.hid hst
      have HLK := Lib.hid hlk
      clear hrw hq hst hlk hown hext
      go_upto_region 5 with fail
      refine wp_region_held_drew (S := fun wz => wz.cell? (ad.add (k * 2)) = some (.slice sA sn sc) ∧ wz.cell? ⟨(ad.add (k * 2)).block, (ad.add (k * 2)).off + 1, none⟩ = some (.int .i64 qe)) (by kernel_rfl) ⟨c0, c1⟩ (fun hHeld => ?_)
      have hxt : Ext wr wr.drew := Ext.drew _
      generalize wr.drew = v1 at hxt hHeld ⊢
      have HS := Lib.hid hHeld
      have HOD := Lib.hid (row_kp HO.out (Kp.of_ext (L := []) hxt) (by simp))
      have HED := Lib.hid (HE.out.trans hxt)
      clear c0 c1 hxt
      refine' wpAnyH_take (i := 0) (oi := _) (v := _) ?hi24 ?hs24 ?hf24 ?hr24 ?hQ24 (Or.inl ⟨?hw24, ?hy24⟩) (by assumption) ?hrest24
      case hi24 => simp only [List.getElem?_toArray]; rfl
      case hs24 => kernel_rfl
      case hf24 => kernel_rfl
      case hr24 => kernel_rfl
      case hQ24 => exact fun _ _ _ h => h
      case hw24 => rfl
      case hy24 => intro w hSw; (try dsimp only at hSw); go_simp; try with_reducible rfl
      try simp only [Act.put, List.setIfInBounds_toArray, List.set_cons_zero, List.set_cons_succ]
      refine' wpAnyH_take (i := 1) (oi := _) (v := _) ?hi25 ?hs25 ?hf25 ?hr25 ?hQ25 (Or.inl ⟨?hw25, ?hy25⟩) (by assumption) ?hrest25
      case hi25 => simp only [List.getElem?_toArray]; rfl
      case hs25 => kernel_rfl
      case hf25 => kernel_rfl
      case hr25 => kernel_rfl
      case hQ25 => exact fun _ _ _ h => h
      case hw25 => rfl
      case hy25 => intro w hSw; (try dsimp only at hSw); go_simp; try with_reducible rfl
      try simp only [Act.put, List.setIfInBounds_toArray, List.set_cons_zero, List.set_cons_succ]
      refine' wpAnyH_take (i := 2) (oi := _) (v := _) ?hi26 ?hs26 ?hf26 ?hr26 ?hQ26 (Or.inl ⟨?hw26, ?hy26⟩) (by assumption) ?hrest26
      case hi26 => simp only [List.getElem?_toArray]; rfl
      case hs26 => kernel_rfl
      case hf26 => kernel_rfl
      case hr26 => kernel_rfl
      case hQ26 => exact fun _ _ _ h => h
      case hw26 => rfl
      case hy26 => intro w hSw; (try dsimp only at hSw); go_simp; try with_reducible rfl
      try simp only [Act.put, List.setIfInBounds_toArray, List.set_cons_zero, List.set_cons_succ]
      refine' wpAnyH_take (i := 3) (oi := _) (v := _) ?hi27 ?hs27 ?hf27 ?hr27 ?hQ27 (Or.inl ⟨?hw27, ?hy27⟩) (by assumption) ?hrest27
      case hi27 => simp only [List.getElem?_toArray]; rfl
      case hs27 => kernel_rfl
      case hf27 => kernel_rfl
      case hr27 => kernel_rfl
      case hQ27 => exact fun _ _ _ h => h
      case hw27 => rfl
      case hy27 => intro w hSw; (try dsimp only at hSw); go_simp; try with_reducible rfl
      try simp only [Act.put, List.setIfInBounds_toArray, List.set_cons_zero, List.set_cons_succ]
      refine' wpAnyH_take (i := 4) (oi := _) (v := _) ?hi28 ?hs28 ?hf28 ?hr28 ?hQ28 (Or.inl ⟨?hw28, ?hy28⟩) (by assumption) ?hrest28
      case hi28 => simp only [List.getElem?_toArray]; rfl
      case hs28 => kernel_rfl
      case hf28 => kernel_rfl
      case hr28 => kernel_rfl
      case hQ28 => exact fun _ _ _ h => h
      case hw28 => rfl
      case hy28 => intro w hSw; (try dsimp only at hSw); go_simp; try with_reducible rfl
      try simp only [Act.put, List.setIfInBounds_toArray, List.set_cons_zero, List.set_cons_succ]
      refine' wpAnyH_take (i := 5) (oi := _) (v := _) ?hi29 ?hs29 ?hf29 ?hr29 ?hQ29 (Or.inl ⟨?hw29, ?hy29⟩) (by assumption) ?hrest29
      case hi29 => simp only [List.getElem?_toArray]; rfl
      case hs29 => kernel_rfl
      case hf29 => kernel_rfl
      case hr29 => kernel_rfl
      case hQ29 => exact fun _ _ _ h => h
      case hw29 => rfl
      case hy29 => intro w hSw; (try dsimp only at hSw); go_simp; try with_reducible rfl
      try simp only [Act.put, List.setIfInBounds_toArray, List.set_cons_zero, List.set_cons_succ]
      refine' wpAnyH_take (i := 6) (oi := _) (v := _) ?hi30 ?hs30 ?hf30 ?hr30 ?hQ30 (Or.inl ⟨?hw30, ?hy30⟩) (by assumption) ?hrest30
      case hi30 => simp only [List.getElem?_toArray]; rfl
      case hs30 => kernel_rfl
      case hf30 => kernel_rfl
      case hr30 => kernel_rfl
      case hQ30 => exact fun _ _ _ h => h
      case hw30 => rfl
      case hy30 => intro w hSw; (try dsimp only at hSw); go_simp; try with_reducible rfl
      try simp only [Act.put, List.setIfInBounds_toArray, List.set_cons_zero, List.set_cons_succ]
      refine' wpAnyH_take (i := 7) (oi := _) (v := _) ?hi31 ?hs31 ?hf31 ?hr31 ?hQ31 (Or.inl ⟨?hw31, ?hy31⟩) (by assumption) ?hrest31
      case hi31 => simp only [List.getElem?_toArray]; rfl
      case hs31 => kernel_rfl
      case hf31 => kernel_rfl
      case hr31 => kernel_rfl
      case hQ31 => exact fun _ _ _ h => h
      case hw31 => rfl
      case hy31 => intro w hSw; (try dsimp only at hSw); go_simp; try with_reducible rfl
      try simp only [Act.put, List.setIfInBounds_toArray, List.set_cons_zero, List.set_cons_succ]
      refine' wpAnyH_take (i := 8) (oi := _) (v := _) ?hi32 ?hs32 ?hf32 ?hr32 ?hQ32 (Or.inl ⟨?hw32, ?hy32⟩) (by assumption) ?hrest32
      case hi32 => simp only [List.getElem?_toArray]; rfl
      case hs32 => kernel_rfl
      case hf32 => kernel_rfl
      case hr32 => kernel_rfl
      case hQ32 => exact fun _ _ _ h => h
      case hw32 => rfl
      case hy32 => intro w hSw; (try dsimp only at hSw); go_simp; try with_reducible rfl
      try simp only [Act.put, List.setIfInBounds_toArray, List.set_cons_zero, List.set_cons_succ]
      refine' wpAnyH_take (i := 9) (oi := _) (v := _) ?hi33 ?hs33 ?hf33 ?hr33 ?hQ33 (Or.inl ⟨?hw33, ?hy33⟩) (by assumption) ?hrest33
      case hi33 => simp only [List.getElem?_toArray]; rfl
      case hs33 => kernel_rfl
      case hf33 => kernel_rfl
      case hr33 => kernel_rfl
      case hQ33 => exact fun _ _ _ h => h
      case hw33 => rfl
      case hy33 => intro w hSw; (try dsimp only at hSw); go_simp; try with_reducible rfl
      try simp only [Act.put, List.setIfInBounds_toArray, List.set_cons_zero, List.set_cons_succ]
      refine' wpAnyH_take (i := 10) (oi := _) (v := _) ?hi34 ?hs34 ?hf34 ?hr34 ?hQ34 (Or.inl ⟨?hw34, ?hy34⟩) (by assumption) ?hrest34
      case hi34 => simp only [List.getElem?_toArray]; rfl
      case hs34 => kernel_rfl
      case hf34 => kernel_rfl
      case hr34 => kernel_rfl
      case hQ34 => exact fun _ _ _ h => h
      case hw34 => rfl
      case hy34 => intro w hSw; (try dsimp only at hSw); go_simp; try with_reducible rfl
      try simp only [Act.put, List.setIfInBounds_toArray, List.set_cons_zero, List.set_cons_succ]
      refine' wpAnyH_take (i := 11) (oi := _) (v := _) ?hi35 ?hs35 ?hf35 ?hr35 ?hQ35 (Or.inl ⟨?hw35, ?hy35⟩) (by assumption) ?hrest35
      case hi35 => simp only [List.getElem?_toArray]; rfl
      case hs35 => kernel_rfl
      case hf35 => kernel_rfl
      case hr35 => kernel_rfl
      case hQ35 => exact fun _ _ _ h => h
      case hw35 => rfl
      case hy35 => intro w hSw; (try dsimp only at hSw); go_simp; try with_reducible rfl
      try simp only [Act.put, List.setIfInBounds_toArray, List.set_cons_zero, List.set_cons_succ]
      refine wpAnyH_ready (rs := [12]) (by kernel_rfl) (by simp) ?_
      refine' AllReadyH.cons (o := _) ?ho36 (fun K hK => ?hstep36) AllReadyH.nil
      case ho36 => simp only [List.getElem?_toArray]; rfl
      go_simp
      have HSB : Hid (_ ∧ _) := Lib.hid (And.intro ((Ext.alloc v1 (.cells #[.slice sA sn sc, .int .i64 qe] 61)).cell HS.out.1) ((Ext.alloc v1 (.cells #[.slice sA sn sc, .int .i64 qe] 61)).cell HS.out.2))
      refine hK.out _ _ (HSB.out) (fun hHeld => ?_)
      clear hK K
      try simp only [Act.put, List.setIfInBounds_toArray, List.set_cons_zero, List.set_cons_succ]
      refine wpAnyH_ready (rs := [13]) (by kernel_rfl) (by simp) ?_
      refine' AllReadyH.cons (o := _) ?ho38 (fun K hK => ?hstep38) AllReadyH.nil
      case ho38 => simp only [List.getElem?_toArray]; rfl
      refine step_append_rd _ rfl (.tmp 11) (.tmp 23) 29 rfl w.heap.size 61 i1 (.agg #[.slice none 0 0, .int .i64 0]) 2 32 Try.underlying29 hi1 hz3 hz4 hz5 rfl (by decide) (.slice A3 k c3) (L.take k).length ((L.take k).flatMap cmdC) rfl (by exact World.ownsRow.alloc HOD.out _) _ 1 1 (cmdC ⟨.slice sA sn sc, qe⟩) rfl rfl (by exact Rd.new _ #[_, _] 61) (by intro u hu; simp [cmdC] at hu; rcases hu with rfl | rfl <;> rfl) (by rw [HLK.out]; simp only [maxLen]; omega) (by rw [HLK.out]; omega) (Nat.le_trans HED.out.size (Ext.alloc _ _).size) ?_
      intro v5 w5 happ
      have hown7 : w5.ownsRow w.heap.size 61 2 v5 (L.take (k + 1)).length ((L.take (k + 1)).flatMap cmdC) := by
        have := happ.own
        rw [← HST.out, List.flatMap_append, List.length_append]
        simpa using this
      have hext7 : Ext w w5 := (ap_kp happ).to_ext (HED.out.trans (Ext.alloc _ _)) (fun k hk => row_new HOD.out k (by simpa using hk))
      have HS7 := Lib.hid (cmd_parts (HR.out.ext hext7) HQ.out)
      have HO7 := Lib.hid hown7
      have HE7 := Lib.hid hext7
      clear happ hown7 hext7
      refine hK.out _ _ (HS7.out) (fun hHeld => ?_)
      clear hK K
      try simp only [Act.put, List.setIfInBounds_toArray, List.set_cons_zero, List.set_cons_succ]
      refine' wpAnyH_take (i := 14) (oi := _) (v := _) ?hi40 ?hs40 ?hf40 ?hr40 ?hQ40 (Or.inl ⟨?hw40, ?hy40⟩) (by assumption) ?hrest40
      case hi40 => simp only [List.getElem?_toArray]; rfl
      case hs40 => kernel_rfl
      case hf40 => kernel_rfl
      case hr40 => kernel_rfl
      case hQ40 => exact fun _ _ _ h => h
      case hw40 => rfl
      case hy40 => intro w hSw; (try dsimp only at hSw); go_simp; try with_reducible rfl
      try simp only [Act.put, List.setIfInBounds_toArray, List.set_cons_zero, List.set_cons_succ]
      refine wpAnyH_done (by kernel_rfl) ?_ _
      go_wp2_with fail
      go_roundw
      case rel => exact ⟨k + 1, by omega, by go_num, HO7.out, HE7.out⟩
      case measure => simp [intOf]; omega
    · obtain rfl : k = n := by omega
      rw [List.take_of_length_le (by rw [HN.out]; exact Nat.le_refl _)] at hown
      have HO := Lib.hid hown
      clear hown
      go_wp2_with fail
      go_ret
      exact ⟨_, rfl, own_row HO.out, hext⟩
theorem lplain_any (v : Value) (cs : List Cmd) (w : World) (h : CmdsR w v cs) (hlen : cs.length ≤ 1000000000) :
    Calls Try.prog 15 #[v] w fun e w' => ∃ u, e = .returned u ∧ CmdsR w' u cs ∧ Ext w w' := by
  obtain ⟨xs, h1, h2, h3⟩ := h
  refine (lplain_row v xs w h1 (fun x hx => ?_) (by omega)).mono ?_
  · obtain ⟨i, hi⟩ := List.getElem?_of_mem hx
    have hil := (List.getElem?_eq_some_iff.1 hi).1
    obtain ⟨A, n, c, e, _⟩ := (h3 i x _ hi (List.getElem?_eq_getElem (by omega))).1
    exact ⟨A, n, c, e⟩
  · rintro e w' ⟨u, rfl, hr, hx⟩
    exact ⟨u, rfl, ⟨xs, hr, h2, fun i x c a b => ⟨(h3 i x c a b).1.ext hx, (h3 i x c a b).2⟩⟩, hx⟩
end Go.Proofs.Ytdbboooblbdihaa
