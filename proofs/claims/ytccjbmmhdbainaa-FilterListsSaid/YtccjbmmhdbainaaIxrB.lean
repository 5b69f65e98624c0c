/- The document's index: Sorted. -/
import Derived.Test.YtccjbmmhdbainaaIxrA
namespace Go.Proofs.Ytccjbmmhdbainaa
open Go.RowKit Sets
set_option linter.unusedVariables false
set_option maxRecDepth 100000
set_option linter.unusedSectionVars false
set_option linter.unusedSimpArgs false

def fldL (l : List Lab) (k : Nat) : List Lab := srtL (l.take k)
theorem fldL_snoc {l : List Lab} {k : Nat} {y : Lab} (h : l[k]? = some y) : fldL l (k + 1) = insBy (fun z => z.1) (fldL l k) y := by
  unfold fldL srtL
  rw [take_snoc h, List.foldl_append]
  rfl
theorem insBy_len {α : Type} (f : α → ByteArray) (M : List α) (e : α) : (insBy f M e).length = M.length + 1 := by
  rw [(insBy_perm f M e).length_eq]
  rfl
theorem srtL_len (l : List Lab) : (srtL l).length = l.length := by
  have : ∀ (l o : List Lab), (l.foldl (insBy fun y => y.1) o).length = o.length + l.length := by
    intro l
    induction l with
    | nil => intro o; rfl
    | cons a l ih =>
      intro o
      rw [List.foldl_cons, ih, insBy_len, List.length_cons]
      omega
  rw [srtL, this]
  simp
theorem fldL_len {l : List Lab} {k : Nat} (h : k ≤ l.length) : (fldL l k).length = k := by
  unfold fldL
  rw [srtL_len, List.length_take]
  omega
theorem fldL_all (l : List Lab) : fldL l l.length = srtL l := by
  unfold fldL
  rw [List.take_length]
theorem fldL_mem {l : List Lab} {k : Nat} (hok : ∀ y ∈ l, okL y) : ∀ y ∈ fldL l k, okL y := by
  have : ∀ (l o : List Lab), (∀ y ∈ l, okL y) → (∀ y ∈ o, okL y) → ∀ y ∈ l.foldl (insBy fun y => y.1) o, okL y := by
    intro l
    induction l with
    | nil => intro o _ h; exact h
    | cons a l ih =>
      intro o h1 h2
      rw [List.foldl_cons]
      refine ih _ (fun y hy => h1 y (List.mem_cons_of_mem _ hy)) fun y hy => ?_
      rcases List.mem_cons.1 ((insBy_perm (fun y : Lab => y.1) o a).mem_iff.1 hy) with rfl | hy
      · exact h1 _ List.mem_cons_self
      · exact h2 _ hy
  exact this _ [] (fun y hy => hok y (List.mem_of_mem_take hy)) (by simp)
theorem own_base {w : World} {B B' e size n : Nat} {v : Value} {xs : List Value} (h : w.ownsRow B' e size v n xs) (hb : B ≤ B') : w.ownsRow B e size v n xs := by
  refine ⟨h.1, ?_⟩
  rcases h.2 with h2 | ⟨g, cap, cur, h1, h2, h3⟩
  · exact .inl h2
  · exact .inr ⟨g, cap, cur, h1, Nat.le_trans hb h2, h3⟩
theorem own_later {w w' : World} {base e size n : Nat} {u : Value} {zs : List Value} (h : w.ownsRow base e size u n zs) (hb : Ext w w') : w'.ownsRow base e size u n zs :=
  World.ownsRow.kept (row := none) h ⟨hb.os, hb.tape, hb.output, hb.size, fun k hk _ => hb.block k hk⟩ (by
    cases hv : u.ownBlock with
    | none => exact .inl rfl
    | some k => exact .inr (by simp))
theorem lbelow_ext (a b : ByteArray) (w : World) (ha : a.size ≤ 9223372036854775807) (hb : b.size ≤ 9223372036854775807) :
    Calls Try.prog 56 #[.string a, .string b] w fun e w' => e = .returned (.bool (ltB a b)) ∧ Ext w w' := by
  refine (below_any a b w ha hb).mono ?_
  rintro e w' ⟨rfl, q, rfl⟩
  exact ⟨rfl, Ext.drewN _ _⟩
set_option maxRecDepth 100000 in
set_option maxHeartbeats 8000000 in
theorem rsorted_any (v : Value) (l : List Lab) (w : World) (h : Row labC w v l) (hok : ∀ y ∈ l, okL y) (hlen : l.length ≤ 100000) :
    Calls Try.prog 57 #[v] w fun e w' => ∃ u, e = .returned u ∧ w'.ownsRow w.heap.size 69 2 u (srtL l).length ((srtL l).flatMap labC) ∧ Ext w w' := by
  obtain ⟨i1, hi1, hz3, hz4, hz5⟩ := info_parts Try.labInfo
  obtain ⟨A, n, c, rfl, hn, hnc, hcm, hr⟩ := h
  have hc' : c ≤ 9223372036854775807 := by simpa [maxLen] using hcm
  have HR := Lib.hid hr
  have HN := Lib.hid hn
  have HOK := Lib.hid hok
  have hn1 : n ≤ 100000 := by rw [← hn]; exact hlen
  clear hr hn hcm hok
  go_enter Try.func57, Try.ntmps57
  go_wp2_with fail
  go_loopw [3, 4] (fun o i wr => ∃ k : Nat, k ≤ n ∧ i = .int .i64 (k : Int) ∧ wr.ownsRow w.heap.size 69 2 o (fldL l k).length ((fldL l k).flatMap labC) ∧ Ext w wr) (fun _ i _ => n - (intOf i).toNat)
  case atStart => exact ⟨0, by omega, rfl, World.ownsRow_nil _ _ _ _, Ext.refl _⟩
  case round =>
    obtain ⟨i, hi, rfl, hown, hx⟩ := hrel
    have HX := Lib.hid hx
    have HSL := Lib.hid (fldL_len (l := l) (k := i) (by have := HN.out; omega))
    have HSO := Lib.hid (fldL_mem (k := i) HOK.out)
    have HSN := Lib.hid (fun y (hy : l[i]? = some y) => fldL_snoc hy)
    have HSA : Hid (i = n → fldL l i = srtL l) := Lib.hid (fun e => by rw [e, ← HN.out]; exact fldL_all l)
    generalize fldL l i = S at hown HSL HSO HSN HSA
    have HO := Lib.hid hown
    clear hx hown
    by_cases hin : i < n
    · have hiI : (i : Int) < (n : Int) := by omega
      have hiJ : (0 : Int) ≤ (i : Int) := by omega
      obtain ⟨y, hy⟩ : ∃ y, l[i]? = some y := ⟨_, List.getElem?_eq_getElem (by have := HN.out; omega)⟩
      obtain ⟨ad, rfl⟩ : ∃ ad, A = some ad := row_some HR.out labC_len (by decide) (by have := HN.out; omega)
      have HC := Lib.hid (fun wz (hw : Ext w wz) => lab_cells (HR.out.ext hw) hy)
      have HOY := Lib.hid (HOK.out y (List.mem_of_getElem? hy))
      have HNX := Lib.hid (HSN.out y hy)
      obtain ⟨y1, y2⟩ := y
      dsimp only at HC HOY HNX
      obtain ⟨Ao, co, rfl, hnc2, hcm2, hr2⟩ := own_slice HO.out
      have hcm3 : co ≤ 9223372036854775807 := by simpa [maxLen] using hcm2
      rw [HSL.out] at hnc2
      have HRO := Lib.hid hr2
      clear hy hr2 hcm2 HSN HO
      rw [HSL.out]
      rename World => w2
      go_upto_block 2 with fail
      go_cut [5, 6] from 13 to 38 (fun s5 s6 wx => ∃ k : Nat, s6 = .int .i64 (k : Int) ∧ (S.takeWhile fun z => ltB z.1 y1).length = k ∧ wx.ownsRow w2.heap.size 69 2 s5 (S.take k).length ((S.take k).flatMap labC) ∧ Ext w2 wx)
      case first =>
        go_wp2_with fail
        go_loopw [5, 6] (fun o j wr => ∃ k : Nat, k ≤ (S.takeWhile fun z => ltB z.1 y1).length ∧ j = .int .i64 (k : Int) ∧ wr.ownsRow w2.heap.size 69 2 o (S.take k).length ((S.take k).flatMap labC) ∧ Ext w2 wr) (fun _ j _ => i - (intOf j).toNat)
        case atStart => exact ⟨0, by omega, rfl, World.ownsRow_nil _ _ _ _, Ext.refl _⟩
        case round =>
          obtain ⟨k, hk, rfl, hown, hext⟩ := hrel
          have hkl := Nat.le_trans hk (while_len S _)
          rw [HSL.out] at hkl
          have HK := Lib.hid hk
          have HO := Lib.hid hown
          have HE := Lib.hid hext
          clear hk hown hext
          by_cases hki : k < i
          · have hkI : (k : Int) < (i : Int) := by omega
            have hkJ : (0 : Int) ≤ (k : Int) := by omega
            obtain ⟨z, hz⟩ : ∃ z, S[k]? = some z := ⟨_, List.getElem?_eq_getElem (by have := HSL.out; omega)⟩
            obtain ⟨ao, rfl⟩ : ∃ ad, Ao = some ad := row_some HRO.out labC_len (by decide) (by have := HSL.out; omega)
            have HZ := Lib.hid (fun wz (hw : Ext w2 wz) => (⟨lab_cells (HRO.out.ext hw) hz, HC.out wz (HX.out.trans hw)⟩ : _ ∧ _))
            have HOZ := Lib.hid (HSO.out z (List.mem_of_getElem? hz))
            have HWN := Lib.hid (while_next HK.out hz)
            have HST : Hid (S.take k ++ [z] = S.take (k + 1)) := Lib.hid (take_snoc hz).symm
            have HLK : Hid ((S.take k).length = k) := Lib.hid (by rw [List.length_take, HSL.out]; omega)
            obtain ⟨z1, z2⟩ := z
            dsimp only at HZ HOZ HWN
            clear hz
            have hs0 := HZ.out wr HE.out
            go_wp2_with fail
            go_region_held3 (fun wz => (wz.cell? (ao.add (k * 2)) = some (.string z1) ∧ wz.cell? ⟨(ao.add (k * 2)).block, (ao.add (k * 2)).off + 1, none⟩ = some (.string z2)) ∧ (wz.cell? (ad.add (i * 2)) = some (.string y1) ∧ wz.cell? ⟨(ad.add (i * 2)).block, (ad.add (i * 2)).off + 1, none⟩ = some (.string y2))) (first | assumption | exact HZ.out _ HE7.out) (first
              | (go_at_call 56
                 refine (lbelow_ext z1 y1 _ HOZ.out.1 HOY.out.1).mono ?_
                 rintro e w7 ⟨rfl, hx7⟩
                 have HE7 := Lib.hid (HE.out.trans ((Ext.drew wr).trans hx7))
                 have HO7 := Lib.hid (own_later HO.out ((Ext.drew wr).trans hx7))
                 clear hx7))
            obtain ⟨⟨e0, e1⟩, e2, e3⟩ := HZ.out w7 HE7.out
            cases haa : ltB z1 y1 with
            | true =>
              have HKK := Lib.hid (HWN.out.1 haa)
              clear haa hs0
              have hx6 : Ext w7 (w7.alloc (.cells #[.string z1, .string z2] 69)) := Ext.alloc _ _
              have hww : w2.heap.size ≤ w7.heap.size := HE7.out.size
              go_wp2_with (first
                | (at_builtin
                   refine app_row labC_len labC_one _ rfl (.tmp 30) (.tmp 35) 25 69 rfl i1 (.agg #[.string ByteArray.empty, .string ByteArray.empty]) 32 Try.underlying25 hi1 hz3 hz4 hz5 rfl (by decide) (by decide) w2.heap.size _ (S.take k) rfl (by exact own_later HO7.out hx6) (Nat.le_trans hww hx6.size) (some ⟨w7.heap.size, 0, none⟩) 1 1 [(z1, z2)] rfl rfl (by exact Rd.new w7 #[_, _] 69) (by have := HLK.out; simp only [List.length_singleton]; omega) ?_
                   intro v8 w8 hown8 hchg8
                   have HO8 := Lib.hid hown8
                   have HE8 : Hid (Ext w2 w8) := Lib.hid (((Chg.of_ext (HE7.out.trans hx6)).trans hchg8).to_ext (Nat.le_refl _))
                   clear hchg8 hown8))
              go_roundw
              case rel => exact ⟨k + 1, HKK.out, by go_num, by rw [← HST.out]; exact HO8.out, HE8.out⟩
              case measure => simp [intOf]; omega
            | false =>
              have HKK := Lib.hid (HWN.out.2 haa)
              clear haa hs0
              go_wp2_with fail
              go_meet
              exact ⟨k, rfl, HKK.out, HO7.out, HE7.out⟩
          · obtain rfl : k = i := by omega
            have HKK : Hid ((S.takeWhile fun z => ltB z.1 y1).length = k) := Lib.hid (by have := while_len S (fun z : Lab => ltB z.1 y1); have := HK.out; have := HSL.out; omega)
            go_wp2_with fail
            go_quiet (fail)
            go_wp2_with fail
            go_meet
            exact ⟨k, rfl, HKK.out, own_later HO.out (Ext.drewN _ _), HE.out.trans (Ext.drewN _ _)⟩
      case rest =>
        obtain ⟨k, rfl, hkw, hown, hx⟩ := hcut
        have hkl := while_len S (fun z : Lab => ltB z.1 y1)
        rw [hkw, HSL.out] at hkl
        have HI : Hid (fldL l (i + 1) = (S.take k ++ [(y1, y2)]) ++ S.drop k) := Lib.hid (by rw [HNX.out]; exact insBy_parts hkw)
        have HO := Lib.hid hown
        have HE := Lib.hid hx
        have HLK : Hid ((S.take k).length = k) := Lib.hid (by rw [List.length_take, HSL.out]; omega)
        have HLD : Hid ((S.drop k).length = i - k) := Lib.hid (by rw [List.length_drop, HSL.out])
        obtain ⟨A2, hA2, hsl2⟩ := cut_from (P := Try.prog) 25 69 i1 2 Try.underlying25 hi1 hz4 HRO.out (by rw [flat_length labC_len, HSL.out]) hnc2 k (k : Int) rfl hkl
        rw [flat_drop labC_len _ _ (by rw [HSL.out]; exact hkl)] at hA2
        have HR2 := Lib.hid hA2
        clear hkw hown hx hA2
        obtain ⟨e2, e3⟩ := HC.out wc (HX.out.trans HE.out)
        have hx6 : Ext wc (wc.alloc (.cells #[.string y1, .string y2] 69)) := Ext.alloc _ _
        have hww : w2.heap.size ≤ wc.heap.size := HE.out.size
        go_wp2_with (first
          | (at_builtin
             refine app_row labC_len labC_one _ rfl (.tmp 39) (.tmp 44) 25 69 rfl i1 (.agg #[.string ByteArray.empty, .string ByteArray.empty]) 32 Try.underlying25 hi1 hz3 hz4 hz5 rfl (by decide) (by decide) w2.heap.size _ (S.take k) rfl (by exact own_later HO.out hx6) (Nat.le_trans hww hx6.size) (some ⟨wc.heap.size, 0, none⟩) 1 1 [(y1, y2)] rfl rfl (by exact Rd.new wc #[_, _] 69) (by have := HLK.out; simp only [List.length_singleton]; omega) ?_
             intro v8 w8 hown8 hchg8
             have HO8 := Lib.hid hown8
             have HE8 : Hid (Ext w2 w8) := Lib.hid (((Chg.of_ext (HE.out.trans hx6)).trans hchg8).to_ext (Nat.le_refl _))
             clear hchg8 hown8)
          | (at_builtin
             refine app_row labC_len labC_one _ rfl (.tmp 46) (.tmp 49) 25 69 rfl i1 (.agg #[.string ByteArray.empty, .string ByteArray.empty]) 32 Try.underlying25 hi1 hz3 hz4 hz5 rfl (by decide) (by decide) w2.heap.size v8 (S.take k ++ [(y1, y2)]) rfl HO8.out HE8.out.size A2 (i - k) (co - k) (S.drop k) rfl HLD.out (HR2.out.ext HE8.out) (by have := HLK.out; have := HLD.out; simp only [List.length_append, List.length_singleton]; omega) ?_
             intro v9 w9 hown9 hchg9
             have HO9 := Lib.hid hown9
             have HE9 : Hid (Ext w2 w9) := Lib.hid (((Chg.of_ext HE8.out).trans hchg9).to_ext (Nat.le_refl _))
             clear hchg9 hown9))
        go_roundw
        case rel => exact ⟨i + 1, by omega, by go_num, by rw [HI.out]; exact own_base HO9.out HX.out.size, HX.out.trans HE9.out⟩
        case measure => simp [intOf]; omega
    · obtain rfl : i = n := by omega
      have HE := Lib.hid (HSA.out rfl)
      go_wp2_with fail
      go_ret
      exact ⟨_, rfl, by rw [← HE.out]; exact HO.out, HX.out⟩
end Go.Proofs.Ytccjbmmhdbainaa
