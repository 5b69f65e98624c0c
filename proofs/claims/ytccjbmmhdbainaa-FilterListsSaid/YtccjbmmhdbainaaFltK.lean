/- FilterLists walked. -/
import Derived.Test.YtccjbmmhdbainaaFltB
import Derived.Test.YtccjbmmhdbainaaFltX
import Derived.Deep.RegionHeld3
namespace Go.Proofs.Ytccjbmmhdbainaa
open Go.RowKit Sets
set_option linter.unusedVariables false
set_option linter.unusedSectionVars false
set_option linter.unusedSimpArgs false
set_option maxRecDepth 100000


section
variable {w w' : World} {p : Nat} {t : TypeId} {f : Nat × Nat}
theorem rd_str (hs : ∀ a s, w.cell? a = some (.string s) → w'.cell? a = some (.string s)) {A : Option Addr} {cs : List Value} (h : Rd w A cs) (hq : ∀ u ∈ cs, ∃ s, u = .string s) : Rd w' A cs := fun hne => by
  obtain ⟨ad, e, hcell⟩ := h hne
  refine ⟨ad, e, fun j u hu => ?_⟩
  obtain ⟨s, rfl⟩ := hq u (List.mem_of_getElem? hu)
  exact hs _ _ (hcell j _ hu)
theorem txt_str (hs : ∀ a s, w.cell? a = some (.string s) → w'.cell? a = some (.string s)) {v : Value} {xs : List ByteArray} (h : Txt w v xs) : Txt w' v xs := by
  obtain ⟨A, n, c, h1, h2, h3, h4, h5⟩ := h
  exact ⟨A, n, c, h1, h2, h3, h4, rd_str hs h5 (fun u hu => by obtain ⟨s, _, rfl⟩ := List.mem_map.1 hu; exact ⟨s, rfl⟩)⟩
theorem lrow_str (hs : ∀ a s, w.cell? a = some (.string s) → w'.cell? a = some (.string s)) {v : Value} {xs : List Lab} (h : Row labC w v xs) : Row labC w' v xs := by
  obtain ⟨A, n, c, h1, h2, h3, h4, h5⟩ := h
  refine ⟨A, n, c, h1, h2, h3, h4, rd_str hs h5 (fun u hu => ?_)⟩
  obtain ⟨y, _, hy⟩ := List.mem_flatMap.1 hu
  simp only [labC, List.mem_cons, List.not_mem_nil, or_false] at hy
  rcases hy with rfl | rfl
  · exact ⟨_, rfl⟩
  · exact ⟨_, rfl⟩
theorem map_str {κ α : Type} [DecidableEq κ] {enc : κ → Value} {ok : κ → Prop} {R : World → Value → α → Prop} {b : Nat} {F : κ → Option α} {cs : Array Value} (hb : w.heap[p]? = some (.cells cs t f)) (hk : Kp [p] w w') (hR : ∀ v a, R w v a → R w' v a) (h : MapV enc ok R w b F) : MapV enc ok R w' b F := by
  obtain ⟨l, h1, h2, h3⟩ := h
  exact ⟨l, h1.kp hk (by simpa using (h1.ne hb).symm), fun p hp => by
    obtain ⟨a, e, hr⟩ := h2 p hp
    exact ⟨a, e, hR _ _ hr⟩, h3⟩
theorem idx_str {N x : Nat} {L : List Nat} {M : Mod} {s : ByteArray} {u v : Value} (hb : w.heap[p]? = some (.cells #[.string s, u, v] t f)) (hk : Kp [p] w w') (hs : ∀ a s, w.cell? a = some (.string s) → w'.cell? a = some (.string s)) (h : IdxL N w x L M) : IdxL N w' x L M := by
  obtain ⟨⟨b1, b2, b3, F, G, rfl, hi, hg⟩, hm⟩ := h
  obtain ⟨q1, q2, q3, q4, q5, q6, q7, q8, q9, q10, q11⟩ := hi
  refine ⟨⟨b1, b2, b3, F, G, rfl, ⟨hk.heap q1 ?_, map_str hb hk (fun v a h => lrow_str hs h) q2, map_str hb hk (fun v a h => txt_str hs h) q3, map_str hb hk (fun v a h => txt_str hs h) q4, q5, q6, q7, q8, q9, q10, q11⟩, hg⟩, hm⟩
  simp only [List.mem_singleton]
  rintro rfl
  rw [hb] at q1
  injection q1 with q1
  injection q1 with q1
  have := congrArg Array.toList q1
  simp at this
theorem store_str {s : ByteArray} {b b' : Bool} {v : Value} (hb : w.heap[p]? = some (.cells #[.string s, .bool b, v] t)) :
    (w.setCell ⟨p, 1, none⟩ (.bool b')).heap[p]? = some (.cells #[.string s, .bool b', v] t) ∧ Kp [p] w (w.setCell ⟨p, 1, none⟩ (.bool b')) ∧ ∀ a s, w.cell? a = some (.string s) → (w.setCell ⟨p, 1, none⟩ (.bool b')).cell? a = some (.string s) := by
  have h1 := heap_setCell_same w p 1 _ t (.bool b') hb
  have h2 : Kp [p] w (w.setCell ⟨p, 1, none⟩ (.bool b')) := Kp.store p 1 _ (by simp)
  refine ⟨h1, h2, fun a z hz => ?_⟩
  by_cases e : a.block = p
  · unfold World.cell? at hz ⊢
    rw [e] at hz ⊢
    rw [hb] at hz
    rw [h1]
    simp only at hz ⊢
    split at hz
    · cases hz
    · rename_i hc
      rw [if_neg hc]
      cases ho : a.off with
      | zero => rw [ho] at hz; simpa using hz
      | succ k =>
        cases k with
        | zero => rw [ho] at hz; simp at hz
        | succ k =>
          rw [ho] at hz
          simpa using hz
  · exact h2.cell hz (by simpa using e)
end
theorem cut_mid {P : Program} {w : World} {A : Option Addr} {cs : List Value} (t e : TypeId) (i : TypeInfo) (size : Nat) (ht : P.underlying t = some (.slice e)) (hi : P.info? e = some i) (hsz : i.size = size)
    {n c : Nat} (h : Rd w A cs) (hl : cs.length = n * size) (hc : n ≤ c) (lo k : Nat) (li ki : Int) (hli : li = (lo : Int)) (hki : ki = (k : Int)) (hlo : lo ≤ k) (hk : k ≤ n) :
    ∃ A', Rd w A' ((cs.drop (lo * size)).take ((k - lo) * size)) ∧ ∀ w', (Instr.slice t (.slice A n c) (some (.int .i64 li)) (some (.int .i64 ki)) none).run P w' = .ok (.slice A' (k - lo) (c - lo)) w' := by
  subst hli hki
  refine ⟨_, (h.cut hl hc).take _, fun w' => ?_⟩
  have he : P.elem t = e := by simp [Program.elem, ht]
  rw [run_slice_lh w' t A n c (by rw [he]; exact ht) .i64 .i64 (lo : Int) (k : Int) (by omega) (by omega) (by omega), he]
  simp [sizeOf, typeInfo, hi, sliced, hsz]
theorem drop_one {α : Type} {l : List α} {k : Nat} {x : α} (h : l[k]? = some x) : (l.drop k).take 1 = [x] := by
  obtain ⟨hk, rfl⟩ := List.getElem?_eq_some_iff.1 h
  rw [List.drop_eq_getElem_cons hk]
  rfl
set_option maxHeartbeats 20000000 in
theorem filterLists_any (u0 u1 : Value) (xs : List IOp) (a : Tm) (w : World) (h1 : Row opC w u0 xs) (hok : ∀ o ∈ xs, IOpOk w o) (ha : Txt w u1 a.vals) (hao : TmOk a) :
    Calls Try.prog 8 #[u0, tmV a u1] w fun e w' => e = .returned (.bool true) ∧ Ext w w' := by
  obtain ⟨i0, hi0, hz0, hz1, hz2⟩ := info_parts Try.strInfo
  obtain ⟨na, ta, va⟩ := a
  have HA := Lib.hid ha
  have HAO := Lib.hid hao
  have HH1 := Lib.hid h1
  have HOK := Lib.hid hok
  obtain ⟨A, n, c, rfl, hn, hnc, hc, hr⟩ := ha
  have HN := Lib.hid hn
  have HR := Lib.hid hr
  clear hao h1 hok
  simp only [tmV]
  go_enter Try.func8, Try.ntmps8
  go_upto_region 1 with fail
  have hb := heap_alloc_new w (.cells #[.string na, .bool ta, .slice A n c] 24 (0, 0))
  have hx1 := Ext.alloc w (.cells #[.string na, .bool ta, .slice A n c] 24)
  have hp0 : w.heap.size ≤ w.heap.size := Nat.le_refl _
  generalize w.alloc (.cells #[.string na, .bool ta, .slice A n c] 24) = w2 at hb hx1 ⊢
  generalize hpe : w.heap.size = p at hb ⊢
  have HPE : Hid (∀ k ∈ [p], w.heap.size ≤ k) := Lib.hid (by simp [hpe])
  have HX := Lib.hid hx1
  have HP := Lib.hid hb
  clear hb hx1 hp0 hpe
  go_wp2_with fail
  refine (fbuild_any u0 xs w2 (HH1.out.ext HX.out) (fun o ho => (HOK.out o ho).ext HX.out)).mono ?_
  rintro e w3 ⟨x, L, r, M, rfl, hpx, hml⟩
  have HPX := Lib.hid hpx.gx
  have HML := Lib.hid hml
  have HX3 := Lib.hid (hpx.gx.ext)
  have HGM := Lib.hid hpx.gx.at_.good
  clear hpx hml
  obtain ⟨d0, d1, d2⟩ := tm_cells HP.out HX3.out
  go_wp2_with fail
  refine (tlight_any ⟨na, ta, va⟩ (.slice A n c) w3 (HA.out.ext (HX.out.trans HX3.out))).mono ?_
  rintro e w4 ⟨⟨ba, rfl, hba⟩, hx⟩
  have HX4 := Lib.hid (HX3.out.trans hx)
  have HP4 := Lib.hid (HPX.out.later hx)
  clear hx d0 d1 d2
  obtain ⟨d0, d1, d2⟩ := tm_cells HP.out HX4.out
  cases ba with
  | false =>
    clear hba
    go_wp2_with fail
    refine (known_any _).mono ?_
    rintro e v9 ⟨rfl, hx9⟩
    go_wp2_with fail
    go_ret
    exact ⟨rfl, (HX.out.trans HX4.out).trans hx9⟩
  | true =>
    have HBA := Lib.hid (hba rfl)
    clear hba
    by_cases hn0 : n = 0
    · subst hn0
      go_wp2_with fail
      refine (known_any _).mono ?_
      rintro e v9 ⟨rfl, hx9⟩
      go_wp2_with fail
      go_ret
      exact ⟨rfl, (HX.out.trans HX4.out).trans hx9⟩
    · have hn0I : ((n : Int) == 0) = false := by simp; omega
      go_upto_region 4 with fail
      have hb4 := (Cm.of_ext HX4.out).cells _ _ _ _ HP.out
      have f1 := heap_frozen hb4 1
      go_upto_region 5 with fail
      obtain ⟨hb5, hk5, hs5⟩ := store_str (b' := false) hb4
      have HI5 := Lib.hid (idx_str hb4 hk5 hs5 HP4.out.at_)
      have HX5 := Lib.hid (hk5.to_ext (HX.out.trans HX4.out) HPE.out)
      generalize w4.setCell ⟨p, 1, none⟩ (.bool false) = w5 at hb5 HI5 HX5 ⊢
      have HB5 := Lib.hid hb5
      clear hb4 f1 hk5 hs5 d0 d1 d2 hb5 hn0I
      have hn1 : 0 < n := by omega
      clear hn0
      have HIX : Hid (∀ wz, Ext w5 wz → Ix wz (.pointer (some ⟨x, 0, none⟩)) M) := Lib.hid (fun wz hw => .inr ⟨x, L, _, rfl, HI5.out.ext hw⟩)
      go_wp2_with fail
      go_loopw [7, 8] (fun o iv wr => ∃ k : Nat, k ≤ n ∧ iv = .int .i64 (k : Int) ∧ Txt wr o (anyM M na (va.take k)) ∧ Ext w5 wr) (fun _ iv _ => n - (intOf iv).toNat)
      case atStart => exact ⟨0, by omega, rfl, by rw [List.take_zero, any_none]; exact (Own.nil w5 w5).txt, Ext.refl _⟩
      case round =>
        obtain ⟨k, hk, rfl, htx, hx⟩ := hrel
        have HT := Lib.hid htx
        have HXR := Lib.hid hx
        obtain ⟨d0, d1, d2⟩ := tm_cells HB5.out hx
        clear htx hx
        by_cases hkn : k < n
        · have hkI : (k : Int) < (n : Int) := by omega
          have hkJ : (0 : Int) ≤ (k : Int) := by omega
          have hkK : (k : Int) < 9223372036854775807 := by omega
          obtain ⟨v, hv⟩ : ∃ v, va[k]? = some v := ⟨_, List.getElem?_eq_getElem (by rw [HN.out]; exact hkn)⟩
          have hwr : IntKind.i64.wrap ((k : Int) + 1) = (k : Int) + 1 := by rw [IntWalk.i64_left]; unfold wrap64; omega
          have HTK := Lib.hid (take_snoc hv)
          have HVK := Lib.hid (HAO.out.vals v (List.mem_of_getElem? hv))
          obtain ⟨A1, hA1, hsl⟩ := cut_mid (P := Try.prog) 22 9 i0 1 Try.underlying22 hi0 hz1 (HR.out.ext (HX5.out.trans HXR.out)) (by rw [List.length_map, HN.out]; omega) hnc k (k + 1) (k : Int) ((k : Int) + 1) rfl (by omega) (by omega) (by omega)
          rw [Nat.mul_one, Nat.mul_one, Nat.add_sub_cancel_left, ← List.map_drop, ← List.map_take, drop_one hv] at hA1
          rw [Nat.add_sub_cancel_left] at hsl
          have HA1 : Hid (Txt wr (.slice A1 1 (c - k)) [v]) := Lib.hid ⟨A1, 1, c - k, rfl, rfl, by omega, by omega, hA1⟩
          clear hv hA1
          go_upto_region 9 with fail
          refine wp_region_held_drew (S := fun wz => wz.cell? ⟨p, 0, none⟩ = some (.string na) ∧ wz.cell? ⟨p, 2, none⟩ = some (.slice A n c)) (by kernel_rfl) ⟨(Ext.drew wr).cell d0, (Ext.drew wr).cell d2⟩ (fun hHeld => ?_)
          have hxt : Ext wr wr.drew := Ext.drew _
          generalize wr.drew = v5 at hxt hHeld ⊢
          refine' wpAnyH_take (i := 0) (oi := _) (v := _) ?hi3 ?hs3 ?hf3 ?hr3 ?hQ3 (Or.inl ⟨?hw3, ?hy3⟩) (by assumption) ?hrest3
          case hi3 => simp only [List.getElem?_toArray]; rfl
          case hs3 => kernel_rfl
          case hf3 => kernel_rfl
          case hr3 => kernel_rfl
          case hQ3 => exact fun _ _ _ h => h
          case hw3 => rfl
          case hy3 => intro w hSw; (try dsimp only at hSw); go_simp; try with_reducible rfl
          try simp only [Act.put, List.setIfInBounds_toArray, List.set_cons_zero, List.set_cons_succ]
          refine' wpAnyH_take (i := 1) (oi := _) (v := _) ?hi4 ?hs4 ?hf4 ?hr4 ?hQ4 (Or.inl ⟨?hw4, ?hy4⟩) (by assumption) ?hrest4
          case hi4 => simp only [List.getElem?_toArray]; rfl
          case hs4 => kernel_rfl
          case hf4 => kernel_rfl
          case hr4 => kernel_rfl
          case hQ4 => exact fun _ _ _ h => h
          case hw4 => rfl
          case hy4 => intro w hSw; (try dsimp only at hSw); go_simp; try with_reducible rfl
          try simp only [Act.put, List.setIfInBounds_toArray, List.set_cons_zero, List.set_cons_succ]
          refine' wpAnyH_take (i := 2) (oi := _) (v := _) ?hi5 ?hs5 ?hf5 ?hr5 ?hQ5 (Or.inl ⟨?hw5, ?hy5⟩) (by assumption) ?hrest5
          case hi5 => simp only [List.getElem?_toArray]; rfl
          case hs5 => kernel_rfl
          case hf5 => kernel_rfl
          case hr5 => kernel_rfl
          case hQ5 => exact fun _ _ _ h => h
          case hw5 => rfl
          case hy5 => intro w hSw; (try dsimp only at hSw); go_simp; try with_reducible rfl
          try simp only [Act.put, List.setIfInBounds_toArray, List.set_cons_zero, List.set_cons_succ]
          refine' wpAnyH_take (i := 3) (oi := _) (v := _) ?hi6 ?hs6 ?hf6 ?hr6 ?hQ6 (Or.inl ⟨?hw6, ?hy6⟩) (by assumption) ?hrest6
          case hi6 => simp only [List.getElem?_toArray]; rfl
          case hs6 => kernel_rfl
          case hf6 => kernel_rfl
          case hr6 => kernel_rfl
          case hQ6 => exact fun _ _ _ h => h
          case hw6 => rfl
          case hy6 => intro w hSw; (try dsimp only at hSw); go_simp; try with_reducible rfl
          try simp only [Act.put, List.setIfInBounds_toArray, List.set_cons_zero, List.set_cons_succ]
          refine' wpAnyH_take (i := 4) (oi := _) (v := _) ?hi7 ?hs7 ?hf7 ?hr7 ?hQ7 (Or.inl ⟨?hw7, ?hy7⟩) (by assumption) ?hrest7
          case hi7 => simp only [List.getElem?_toArray]; rfl
          case hs7 => kernel_rfl
          case hf7 => kernel_rfl
          case hr7 => kernel_rfl
          case hQ7 => exact fun _ _ _ h => h
          case hw7 => rfl
          case hy7 => intro w hSw; (try dsimp only at hSw); go_simp; try with_reducible rfl
          try simp only [Act.put, List.setIfInBounds_toArray, List.set_cons_zero, List.set_cons_succ]
          refine' wpAnyH_take (i := 5) (oi := _) (v := _) ?hi8 ?hs8 ?hf8 ?hr8 ?hQ8 (Or.inl ⟨?hw8, ?hy8⟩) (by assumption) ?hrest8
          case hi8 => simp only [List.getElem?_toArray]; rfl
          case hs8 => kernel_rfl
          case hf8 => kernel_rfl
          case hr8 => kernel_rfl
          case hQ8 => exact fun _ _ _ h => h
          case hw8 => rfl
          case hy8 => intro w hSw; (try dsimp only at hSw); go_simp; try with_reducible rfl
          try simp only [Act.put, List.setIfInBounds_toArray, List.set_cons_zero, List.set_cons_succ]
          refine' wpAnyH_take (i := 6) (oi := _) (v := _) ?hi9 ?hs9 ?hf9 ?hr9 ?hQ9 (Or.inl ⟨?hw9, ?hy9⟩) (by assumption) ?hrest9
          case hi9 => simp only [List.getElem?_toArray]; rfl
          case hs9 => kernel_rfl
          case hf9 => kernel_rfl
          case hr9 => kernel_rfl
          case hQ9 => exact fun _ _ _ h => h
          case hw9 => rfl
          case hy9 => intro w hSw; (try dsimp only at hSw); go_simp; try with_reducible rfl
          try simp only [Act.put, List.setIfInBounds_toArray, List.set_cons_zero, List.set_cons_succ]
          refine' wpAnyH_take (i := 7) (oi := _) (v := _) ?hi10 ?hs10 ?hf10 ?hr10 ?hQ10 (Or.inl ⟨?hw10, ?hy10⟩) (by assumption) ?hrest10
          case hi10 => simp only [List.getElem?_toArray]; rfl
          case hs10 => kernel_rfl
          case hf10 => kernel_rfl
          case hr10 => kernel_rfl
          case hQ10 => exact fun _ _ _ h => h
          case hw10 => rfl
          case hy10 => intro w hSw; (try dsimp only at hSw); go_simp; try with_reducible rfl
          try simp only [Act.put, List.setIfInBounds_toArray, List.set_cons_zero, List.set_cons_succ]
          refine' wpAnyH_take (i := 8) (oi := _) (v := _) ?hi11 ?hs11 ?hf11 ?hr11 ?hQ11 (Or.inl ⟨?hw11, ?hy11⟩) (by assumption) ?hrest11
          case hi11 => simp only [List.getElem?_toArray]; rfl
          case hs11 => kernel_rfl
          case hf11 => kernel_rfl
          case hr11 => kernel_rfl
          case hQ11 => exact fun _ _ _ h => h
          case hw11 => rfl
          case hy11 => intro w hSw; (try dsimp only at hSw); go_simp; try with_reducible rfl
          try simp only [Act.put, List.setIfInBounds_toArray, List.set_cons_zero, List.set_cons_succ]
          refine' wpAnyH_take (i := 9) (oi := _) (v := _) ?hi12 ?hs12 ?hf12 ?hr12 ?hQ12 (Or.inl ⟨?hw12, ?hy12⟩) (by assumption) ?hrest12
          case hi12 => simp only [List.getElem?_toArray]; rfl
          case hs12 => kernel_rfl
          case hf12 => kernel_rfl
          case hr12 => kernel_rfl
          case hQ12 => exact fun _ _ _ h => h
          case hw12 => rfl
          case hy12 => intro w hSw; (try dsimp only at hSw); go_simp; try with_reducible rfl
          try simp only [Act.put, List.setIfInBounds_toArray, List.set_cons_zero, List.set_cons_succ]
          refine wpAnyH_ready (rs := [10]) (by kernel_rfl) (by simp) ?_
          refine' AllReadyH.cons (o := _) ?ho13 (fun K hK => ?hstep13) AllReadyH.nil
          case ho13 => simp only [List.getElem?_toArray]; rfl
          go_simp
          have htm := tms_one v5 24 A1 1 (c - k) ⟨na, false, [v]⟩ (HA1.out.ext hxt)
          have hx6 := hxt.trans (Ext.alloc v5 (.cells #[.string na, .bool false, .slice A1 1 (c - k)] 24))
          dsimp only at htm
          refine hK.out _ _ (⟨hx6.cell d0, hx6.cell d2⟩) (fun hHeld => ?_)
          clear hK K
          try simp only [Act.put, List.setIfInBounds_toArray, List.set_cons_zero, List.set_cons_succ]
          generalize v5.alloc (.cells #[.string na, .bool false, .slice A1 1 (c - k)] 24) = v6 at htm hx6 hHeld ⊢
          refine wpAnyH_ready (rs := [11]) (by kernel_rfl) (by simp) ?_
          refine' AllReadyH.cons (o := _) ?ho15 (fun K hK => ?hstep15) AllReadyH.nil
          case ho15 => simp only [List.getElem?_toArray]; rfl
          go_simp
          refine (findT_any (.pointer (some ⟨x, 0, none⟩)) M [⟨na, false, [v]⟩] _ v6 (HIX.out _ (HXR.out.trans hx6)) (by have := HML.out; omega) htm (by
            intro t ht
            obtain rfl := List.mem_singleton.1 ht
            exact ⟨⟨HAO.out.name, by
              intro y hy
              obtain rfl := List.mem_singleton.1 hy
              exact HVK.out⟩, by simp⟩)).mono ?_
          rintro e v7 ⟨s7, rfl, hs7, hx7⟩
          have hx67 := hx6.trans hx7
          refine hK.out _ _ (⟨hx67.cell d0, hx67.cell d2⟩) (fun hHeld => ?_)
          clear hK K
          try simp only [Act.put, List.setIfInBounds_toArray, List.set_cons_zero, List.set_cons_succ]
          refine' wpAnyH_take (i := 12) (oi := _) (v := _) ?hi17 ?hs17 ?hf17 ?hr17 ?hQ17 (Or.inl ⟨?hw17, ?hy17⟩) (by assumption) ?hrest17
          case hi17 => simp only [List.getElem?_toArray]; rfl
          case hs17 => kernel_rfl
          case hf17 => kernel_rfl
          case hr17 => kernel_rfl
          case hQ17 => exact fun _ _ _ h => h
          case hw17 => rfl
          case hy17 => intro w hSw; (try dsimp only at hSw); go_simp; try with_reducible rfl
          try simp only [Act.put, List.setIfInBounds_toArray, List.set_cons_zero, List.set_cons_succ]
          refine wpAnyH_done (by kernel_rfl) ?_ _
          have HS7 := Lib.hid hs7
          have HX7 := Lib.hid (HXR.out.trans hx67)
          have HT7 := Lib.hid (HT.out.ext hx67)
          clear hs7 hx67 hx7 hx6 htm hHeld hxt
          go_wp2_with fail
          refine (ror_txt _ _ _ _ v7 HT7.out HS7.out ((any_fit HGM.out _ _).app (found_fit HGM.out _)) (by
            have h1 := any_len M na (va.take k)
            have h2 := found_len M [⟨na, false, [v]⟩]
            have h3 := HML.out
            omega)).mono ?_
          rintro e v8 ⟨s8, rfl, hs8, hx8⟩
          rw [any_snoc HGM.out, ← HTK.out] at hs8
          have HS8 := Lib.hid hs8
          have HX8 := Lib.hid (HX7.out.trans hx8)
          clear hs8 hx8
          go_wp2_with fail
          go_roundw
          case rel => exact ⟨k + 1, by omega, by go_num, HS8.out, HX8.out⟩
          case measure => simp [intOf]; omega
        · obtain rfl : k = n := by omega
          have HTK : Hid (va.take k = va) := Lib.hid (List.take_of_length_le (by rw [HN.out]; exact Nat.le_refl _))
          have HT2 : Hid (Txt wr u7 (anyM M na va)) := Lib.hid (by have := HT.out; rwa [HTK.out] at this)
          go_wp2_with fail
          refine (findT_any (.pointer (some ⟨x, 0, none⟩)) M [⟨na, true, []⟩] _ _ (HIX.out _ (HXR.out.trans (Ext.alloc wr _))) (by have := HML.out; omega) (tms_one wr 24 none 0 0 ⟨na, true, []⟩ (Own.nil wr wr).txt) (by
            intro t ht
            obtain rfl := List.mem_singleton.1 ht
            exact ⟨⟨HAO.out.name, by simp⟩, by simp⟩)).mono ?_
          rintro e v5 ⟨s5, rfl, hs5, hx⟩
          have HS5 := Lib.hid hs5
          have hx5 := (Ext.alloc wr (.cells #[.string na, .bool true, .slice none 0 0] 24)).trans hx
          have HX5R := Lib.hid hx5
          have HX50 := Lib.hid (HXR.out.trans hx5)
          clear hs5 hx hx5 d0 d1 d2
          obtain ⟨d0, d1, d2⟩ := tm_cells HB5.out HX50.out
          go_wp2_with fail
          refine (findT_any (.pointer (some ⟨x, 0, none⟩)) M [⟨na, false, va⟩] _ _ (HIX.out _ (HX50.out.trans (Ext.alloc v5 _))) (by have := HML.out; omega) (tms_one v5 24 A k c ⟨na, false, va⟩ (HA.out.ext (HX5.out.trans HX50.out))) (by
            intro t ht
            obtain rfl := List.mem_singleton.1 ht
            exact ⟨⟨HAO.out.name, HAO.out.vals⟩, by have := HBA.out.1; dsimp only; omega⟩)).mono ?_
          rintro e v6 ⟨s6, rfl, hs6, hx⟩
          rw [any_all HGM.out na va (by rw [HN.out]; omega)] at hs6
          have HS6 := Lib.hid hs6
          have hx6 := (Ext.alloc v5 (.cells #[.string na, .bool false, .slice A k c] 24)).trans hx
          have HX6 := Lib.hid hx6
          have HX6R := Lib.hid (HX5R.out.trans hx6)
          have HX60 := Lib.hid (HX50.out.trans hx6)
          clear hs6 hx hx6 d0 d1 d2
          go_wp2_with fail
          refine (same_yes s6 u7 _ _ v6 HS6.out (HT2.out.ext HX6R.out) rfl).mono ?_
          rintro e v7 ⟨rfl, hx⟩
          have HX7 := Lib.hid hx
          clear hx
          go_wp2_with fail
          refine (ror_txt s5 u7 _ _ v7 (HS5.out.ext (HX6.out.trans HX7.out)) (HT2.out.ext (HX6R.out.trans HX7.out)) ((found_fit HGM.out _).app (any_fit HGM.out _ _)) (by
            have h1 := any_len M na va
            have h2 := found_len M [⟨na, true, []⟩]
            have h3 := HML.out
            omega)).mono ?_
          rintro e v8 ⟨s8, rfl, hs8, hx⟩
          rw [any_some HGM.out] at hs8
          have HS8 := Lib.hid hs8
          have HX8 := Lib.hid hx
          clear hs8 hx
          go_wp2_with fail
          refine (same_yes s8 s5 _ _ v8 HS8.out (HS5.out.ext (HX6.out.trans (HX7.out.trans HX8.out))) rfl).mono ?_
          rintro e v9 ⟨rfl, hx⟩
          have HX9 := Lib.hid (HX5.out.trans (HX60.out.trans (HX7.out.trans (HX8.out.trans hx))))
          clear hx
          go_wp2_with fail
          refine (known_any _).mono ?_
          rintro e v9 ⟨rfl, hx9⟩
          go_wp2_with fail
          go_ret
          exact ⟨rfl, HX9.out.trans hx9⟩
end Go.Proofs.Ytccjbmmhdbainaa
