/- The keys that terms find: the document. -/
import Derived.Test.YtccjbmmhdbainaaFltL
import Derived.Deep.RegionHeld3
namespace Go.Proofs.Ytccjbmmhdbainaa
open Go.RowKit Sets
set_option linter.unusedVariables false
set_option linter.unusedSectionVars false
set_option linter.unusedSimpArgs false
set_option maxRecDepth 100000

theorem found_snoc {M : Mod} {k : Nat} {q : Ent} (ts : List Tm) (hq : M[k]? = some q) : foundBy (M.take (k + 1)) ts = foundBy (M.take k) ts ++ (if (ts.all fun t => matchT t q.2) = true then [q.1] else []) := by
  unfold foundBy keysM
  rw [take_snoc hq, List.filter_append, List.map_append]
  congr 1
  by_cases h : (ts.all fun t => matchT t q.2) = true
  · rw [if_pos h, List.filter_cons_of_pos (by exact h)]
    rfl
  · rw [if_neg h, List.filter_cons_of_neg (by exact h)]
    rfl
theorem all_next {α : Type} {f : α → Bool} {l : List α} {k : Nat} {x : α} (hx : l[k]? = some x) : (l.take (k + 1)).all f = ((l.take k).all f && f x) := by
  rw [take_snoc hx, List.all_append]
  simp
set_option maxHeartbeats 8000000 in
theorem rfindT_any (r : Nat) (M : Mod) (ts : List Tm) (u : Value) (w : World) (h : RefX w r M) (hl : M.length ≤ 1000) (hu : Tms w u ts) :
    Calls Try.prog 29 #[.pointer (some ⟨r, 0, none⟩), u] w fun e w' => ∃ s, e = .returned s ∧ Txt w' s (foundBy M ts) ∧ Ext w w' := by
  obtain ⟨A, n, c, es, hn, hnc, hc', hes, hents, hfld, hrd, hoff⟩ := h.parts
  obtain ⟨fs, ⟨A2, m, c2, rfl, hm, hmc, hc2, hr2⟩, hfs⟩ := hu
  have hc3 : c2 ≤ 9223372036854775807 := by simpa [maxLen] using hc2
  have HN := Lib.hid hn
  have HR := Lib.hid hrd
  have HE := Lib.hid hents
  have HES := Lib.hid hes
  have HFD := Lib.hid hfld
  have HM := Lib.hid hm
  have HR2 := Lib.hid hr2
  have HFS := Lib.hid hfs
  have hn1 : n ≤ 1000 := by omega
  have d0 := heap_cell (hfld w (Ext.refl _)) 0
  clear h hn hrd hents hes hoff hfld hm hr2 hfs hc2
  go_enter Try.func29, Try.ntmps29
  go_wp2_with fail
  go_loopw [5, 6] (fun o i wr => ∃ k : Nat, k ≤ n ∧ i = .int .i64 (k : Int) ∧ Own w wr o (foundBy (M.take k) ts) ∧ Ext w wr) (fun _ i _ => n - (intOf i).toNat)
  case atStart => exact ⟨0, by omega, rfl, World.ownsRow_nil _ _ _ _, Ext.refl _⟩
  case round =>
    obtain ⟨k, hk, rfl, hown, hx⟩ := hrel
    have HO := Lib.hid hown
    have HX := Lib.hid hx
    clear hown hx d0
    have d0 := heap_cell (HFD.out wr HX.out) 0
    by_cases hkn : k < n
    · have hkI : (k : Int) < (n : Int) := by omega
      have hkJ : (0 : Int) ≤ (k : Int) := by omega
      obtain ⟨q, hq⟩ : ∃ q, M[k]? = some q := ⟨_, List.getElem?_eq_getElem (by have := HN.out; omega)⟩
      obtain ⟨e, he, hok⟩ := HE.out.at_ hq
      obtain ⟨ad, rfl⟩ : ∃ ad, A = some ad := row_some HR.out entC_len (by decide) (by have := HES.out; omega)
      have HC := Lib.hid (fun wz (hw : Ext w wz) => ent_cells (HR.out.ext hw) he)
      have HSN := Lib.hid (found_snoc ts hq)
      have HFL : Hid ((foundBy (M.take k) ts).length ≤ 1000) := Lib.hid (by
        have := found_len (M.take k) ts
        rw [List.length_take] at this
        omega)
      have HRW := Lib.hid hok.row
      obtain ⟨ek, ea, en, ec⟩ := e
      obtain rfl : ek = q.1 := hok.key
      obtain ⟨q1, q2⟩ := q
      dsimp only at HC HSN HRW
      clear hq he hok
      go_wp2_with fail
      clear d0
      go_loopw [7, 8] (fun av j wq => ∃ i : Nat, i ≤ m ∧ j = .int .i64 (i : Int) ∧ av = .bool ((ts.take i).all fun t => matchT t q2) ∧ Ext wr wq) (fun _ j _ => m - (intOf j).toNat)
      case atStart => exact ⟨0, by omega, rfl, rfl, Ext.refl _⟩
      case round =>
        obtain ⟨j, hj, rfl, rfl, hx⟩ := hrel
        rename World => w3
        have HX2 := Lib.hid (HX.out.trans hx)
        have HX3 := Lib.hid hx
        clear hx
        by_cases hjm : j < m
        · have hjI : (j : Int) < (m : Int) := by omega
          have hjJ : (0 : Int) ≤ (j : Int) := by omega
          obtain ⟨t, ht⟩ : ∃ t, ts[j]? = some t := ⟨_, List.getElem?_eq_getElem (by have := HFS.out.1; have := HM.out; omega)⟩
          obtain ⟨f, hf, hat⟩ := HFS.out.at_ ht
          obtain ⟨ad2, rfl⟩ : ∃ ad, A2 = some ad := row_some HR2.out tmC_len (by decide) (by have := HM.out; omega)
          have HAN := Lib.hid (all_next (f := fun t => matchT t q2) ht)
          have HS := Lib.hid (fun wz (hw : Ext w wz) => (And.intro (heap_cell (HFD.out wz hw) 0) (And.intro (HC.out wz hw) (tme_cells (HR2.out.ext hw) hf)) : _ ∧ _ ∧ _))
          obtain ⟨fn, ft, fa, fl, fc⟩ := f
          obtain ⟨tn, tt, tv⟩ := t
          obtain ⟨rfl, rfl, hvl⟩ := hat
          dsimp only at HS hvl HAN
          have HVL := Lib.hid hvl
          clear ht hf hvl
          generalize hal : (ts.take j).all (fun t => matchT t q2) = al at HAN ⊢
          clear hal
          have hs0 := HS.out w3 HX2.out
          cases al with
          | true =>
            go_upto_region 9 with fail
            go_region_held3 (fun wz => wz.cell? ⟨r, 0, none⟩ = some (.slice (some ad) n c) ∧ (wz.cell? (ad.add (k * 2)) = some (.string q1) ∧ wz.cell? ⟨(ad.add (k * 2)).block, (ad.add (k * 2)).off + 1, none⟩ = some (.slice ea en ec)) ∧ (wz.cell? (ad2.add (j * 3)) = some (.string fn) ∧ wz.cell? ⟨(ad2.add (j * 3)).block, (ad2.add (j * 3)).off + 1, none⟩ = some (.bool ft) ∧ wz.cell? ⟨(ad2.add (j * 3)).block, (ad2.add (j * 3)).off + 2, none⟩ = some (.slice fa fl fc))) (first | assumption | exact HS.out _ HX5.out) (first
              | (go_at_call 21
                 refine (rmatch_any ⟨fn, ft, tv⟩ (.slice fa fl fc) (.slice ea en ec) q2 w3.drew ((HVL.out.ext HX2.out).ext (Ext.drew w3)) ((HRW.out.ext HX2.out).ext (Ext.drew w3))).mono ?_
                 rintro e w5 ⟨rfl, hx⟩
                 have HX4 := Lib.hid (HX3.out.trans ((Ext.drew w3).trans hx))
                 have HX5 := Lib.hid (HX.out.trans HX4.out)
                 clear hx))
            have HAN2 : Hid (matchT ⟨fn, ft, tv⟩ q2 = (ts.take (j + 1)).all fun t => matchT t q2) := Lib.hid (by rw [HAN.out]; rfl)
            rw [HAN2.out]
            go_wp2_with fail
            go_roundw
            case rel => exact ⟨j + 1, by omega, by go_num, rfl, HX4.out⟩
            case measure => simp [intOf]; omega
          | false =>
            have HAN2 : Hid ((ts.take (j + 1)).all (fun t => matchT t q2) = false) := Lib.hid (by rw [HAN.out]; rfl)
            go_wp2_with fail
            go_quiet (fail)
            go_wp2_with fail
            go_roundw
            case rel => exact ⟨j + 1, by omega, by go_num, by rw [HAN2.out], HX3.out.trans (Ext.drewN _ _)⟩
            case measure => simp [intOf]; omega
        · obtain rfl : j = m := by omega
          have HTK : Hid (ts.take j = ts) := Lib.hid (List.take_of_length_le (by rw [← HFS.out.1, HM.out]; exact Nat.le_refl _))
          rw [HTK.out]
          have HO2 := Lib.hid (own_later HO.out HX3.out)
          have d0 := heap_cell (HFD.out w3 HX2.out) 0
          obtain ⟨c0, c1⟩ := HC.out w3 HX2.out
          generalize (ts.all fun t => matchT t q2) = al at HSN ⊢
          cases al with
          | false =>
            have HS2 : Hid (foundBy (M.take (k + 1)) ts = foundBy (M.take k) ts) := Lib.hid (by rw [HSN.out, if_neg (by simp), List.append_nil])
            go_wp2_with fail
            go_roundw
            case rel => exact ⟨k + 1, by omega, by go_num, by rw [HS2.out]; exact HO2.out, HX2.out⟩
            case measure => simp [intOf]; omega
          | true =>
            have HS2 : Hid (foundBy (M.take (k + 1)) ts = foundBy (M.take k) ts ++ [q1]) := Lib.hid (by rw [HSN.out, if_pos rfl])
            have hx6 : Ext w3 (w3.alloc (.cells #[.string q1] 9)) := Ext.alloc _ _
            go_wp2_with (first
              | (at_builtin
                 refine app_strs _ rfl (.tmp 41) (.tmp 50) rfl w _ (foundBy (M.take k) ts) rfl (by exact own_later HO2.out hx6) (some ⟨w3.heap.size, 0, none⟩) 1 1 [q1] rfl rfl (Rd.new w3 #[.string q1] 9) (by have := HFL.out; simp only [List.length_singleton]; omega) (by exact HX2.out.trans hx6) ?_
                 intro v7 w7 hown7 hext7))
            go_roundw
            case rel => exact ⟨k + 1, by omega, by go_num, by rw [HS2.out]; exact hown7, hext7⟩
            case measure => simp [intOf]; omega
    · obtain rfl : k = n := by omega
      have HI : Hid (M.take k = M) := Lib.hid (List.take_of_length_le (by rw [HN.out]; exact Nat.le_refl _))
      go_wp2_with fail
      go_ret
      exact ⟨_, rfl, by have := txt_own HO.out; rw [HI.out] at this; exact this, HX.out⟩
end Go.Proofs.Ytccjbmmhdbainaa
