/- Package index: Drop walked. -/
import Derived.Test.YtccjbmmhdbainaaIdxR
import Derived.Deep.RegionHeld3
import Derived.Deep.CutRange
namespace Go.Proofs.Ytccjbmmhdbainaa
open Go.RowKit Sets
set_option linter.unusedVariables false
set_option maxRecDepth 100000
set_option linter.unusedSectionVars false
set_option linter.unusedSimpArgs false

section
variable {B x b1 b2 b3 : Nat} {w w' : World} {G G' : ByteArray → Option (List Lab)} {F F' : Lab → Option (List ByteArray)} {N N' : ByteArray → Option (List ByteArray)}
theorem IdxM.setF (h : IdxM B w x G F N b1 b2 b3) (hm : KeysAt w' b2 F') (hk : Kp [b2] w w') (hc : Cm w w') : IdxM B w' x G F' N b1 b2 b3 :=
  ⟨hc.cells _ _ _ _ h.blk, h.g.kp row_cm hk hc (by simpa using h.d12), hm, h.n.kp txt_cm hk hc (by simpa using Ne.symm h.d23), h.d12, h.d13, h.d23, h.hx, h.h1, h.h2, h.h3⟩
theorem IdxM.setN (h : IdxM B w x G F N b1 b2 b3) (hm : NamesAt w' b3 N') (hk : Kp [b3] w w') (hc : Cm w w') : IdxM B w' x G F N' b1 b2 b3 :=
  ⟨hc.cells _ _ _ _ h.blk, h.g.kp row_cm hk hc (by simpa using h.d13), h.f.kp txt_cm hk hc (by simpa using h.d23), hm, h.d12, h.d13, h.d23, h.hx, h.h1, h.h2, h.h3⟩
theorem IdxM.setG (h : IdxM B w x G F N b1 b2 b3) (hm : LabsAt w' b1 G') (hk : Kp [b1] w w') (hc : Cm w w') : IdxM B w' x G' F N b1 b2 b3 :=
  ⟨hc.cells _ _ _ _ h.blk, hm, h.f.kp txt_cm hk hc (by simpa using Ne.symm h.d12), h.n.kp txt_cm hk hc (by simpa using Ne.symm h.d13), h.d12, h.d13, h.d23, h.hx, h.h1, h.h2, h.h3⟩
/-- What a call has done to an index. -/
structure IDid (B : Nat) (w w' : World) (x : Nat) (G : ByteArray → Option (List Lab)) (F : Lab → Option (List ByteArray)) (N : ByteArray → Option (List ByteArray)) (b1 b2 b3 : Nat) : Prop where
  at_ : IdxM B w' x G F N b1 b2 b3
  kp : Kp [b1, b2, b3] w w'
  cm : Cm w w'
theorem IDid.of_ext (h : IdxM B w x G F N b1 b2 b3) (hx : Ext w w') : IDid B w w' x G F N b1 b2 b3 := ⟨h.ext hx, Kp.of_ext hx, Cm.of_ext hx⟩
end
def delF (key : ByteArray) (F : Lab → Option (List ByteArray)) (y : Lab) : Lab → Option (List ByteArray) := updF F y (optL (mk lessK ((F y).getD []) [key]))
def delN (key : ByteArray) (N : ByteArray → Option (List ByteArray)) (y : Lab) : ByteArray → Option (List ByteArray) := updF N y.1 (optL (mk lessK ((N y.1).getD []) [key]))
theorem optL_getD {α : Type} (l : List α) : (optL l).getD [] = l := by cases l <;> rfl
def shortF {κ : Type} (F : κ → Option (List ByteArray)) : Prop := ∀ y, ((F y).getD []).length ≤ 1000000
theorem len_less (a b : List ByteArray) : (mk lessK a b).length ≤ a.length :=
  (sd_nodup (sd_mk lessK a b)).length_le_of_subset (fun z hz => ((mem_less a b z).1 hz).1)
theorem short_upd {κ : Type} [DecidableEq κ] {F : κ → Option (List ByteArray)} (h : shortF F) (y : κ) (l : List ByteArray) (hl : l.length ≤ 1000000) : shortF (updF F y (optL l)) := by
  intro z
  unfold updF
  split
  · rw [optL_getD]; exact hl
  · exact h z
theorem short_delF {F : Lab → Option (List ByteArray)} (h : shortF F) (key : ByteArray) (y : Lab) : shortF (delF key F y) := short_upd h y _ (Nat.le_trans (len_less _ _) (h y))
theorem short_delN {N : ByteArray → Option (List ByteArray)} (h : shortF N) (key : ByteArray) (y : Lab) : shortF (delN key N y) := short_upd h y.1 _ (Nat.le_trans (len_less _ _) (h y.1))
theorem fold_snoc {α β : Type} {f : β → α → β} {b : β} {l : List α} {k : Nat} {y : α} (h : l[k]? = some y) : (l.take (k + 1)).foldl f b = f ((l.take k).foldl f b) y := by
  rw [take_snoc h, List.foldl_append]; rfl
set_option maxRecDepth 100000 in
set_option maxHeartbeats 8000000 in
theorem drop_any {B x b1 b2 b3 : Nat} {w : World} {G : ByteArray → Option (List Lab)} {F : Lab → Option (List ByteArray)} {N : ByteArray → Option (List ByteArray)} (h : IdxM B w x G F N b1 b2 b3) (key : ByteArray) (hs : okS key)
    (hF : shortF F) (hN : shortF N) (hG : ∀ ls, G key = some ls → ls.length ≤ 100000 ∧ ∀ y ∈ ls, okL y) :
    Calls Try.prog 48 #[.pointer (some ⟨x, 0, none⟩), .string key] w fun e w' => e = .returned (.bool (G key).isSome) ∧
      IDid B w w' x (updF G key none) (((G key).getD []).foldl (delF key) F) (((G key).getD []).foldl (delN key) N) b1 b2 b3 := by
  have H := Lib.hid h
  cases hg : G key with
  | none =>
    have hsame : updF G key none = G := by
      funext z
      unfold updF
      split
      · rename_i e; rw [e, hg]
      · rfl
    rw [hsame]
    clear h hsame
    go_enter Try.func48, Try.ntmps48
    go_wp2_with fail
    refine (has_any H.out key hs).mono ?_
    rintro e _ ⟨rfl, rfl⟩
    rw [hg]
    go_wp2_with fail
    go_ret
    exact ⟨rfl, IDid.of_ext H.out (Ext.refl _)⟩
  | some ls =>
    obtain ⟨hlen, hoky⟩ := hG ls hg
    obtain ⟨v, hrow, hlk⟩ := h.lookG key hs
    have hrun := (hlk w (Ext.refl w)).1
    rw [hg, Option.getD_some] at hrow
    rw [Option.getD_some]
    have c0 := heap_cell h.blk 0
    obtain ⟨A, n, c, rfl, hn, hnc, hcm, hr⟩ := hrow
    have hc' : c ≤ 9223372036854775807 := by simpa [maxLen] using hcm
    have HN := Lib.hid hn
    have HR := Lib.hid hr
    have HOY := Lib.hid hoky
    have HSF := Lib.hid hF
    have HSN := Lib.hid hN
    have hn1 : n ≤ 100000 := by rw [← hn]; exact hlen
    clear h hlk hn hr hoky hF hN hG hlen hcm
    go_enter Try.func48, Try.ntmps48
    go_wp2_with fail
    refine (has_any H.out key hs).mono ?_
    rintro e _ ⟨rfl, rfl⟩
    rw [hg]
    go_wp2_with fail
    go_loopw [18] (fun i wr => ∃ k : Nat, k ≤ n ∧ i = .int .i64 (k : Int) ∧ IDid B w wr x G ((ls.take k).foldl (delF key) F) ((ls.take k).foldl (delN key) N) b1 b2 b3 ∧ shortF ((ls.take k).foldl (delF key) F) ∧ shortF ((ls.take k).foldl (delN key) N)) (fun i _ => n - (intOf i).toNat)
    case atStart => exact ⟨0, by omega, rfl, IDid.of_ext H.out (Ext.refl _), HSF.out, HSN.out⟩
    case round =>
      obtain ⟨k, hk, rfl, hd, hsf, hsn⟩ := hrel
      have HD := Lib.hid hd
      have HF1 := Lib.hid hsf
      have HN1 := Lib.hid hsn
      clear hd hsf hsn
      by_cases hkn : k < n
      · have hkI : (k : Int) < (n : Int) := by omega
        have hkJ : (0 : Int) ≤ (k : Int) := by omega
        obtain ⟨y, hy⟩ : ∃ y, ls[k]? = some y := ⟨_, List.getElem?_eq_getElem (by have := HN.out; omega)⟩
        obtain ⟨ad, rfl⟩ : ∃ ad, A = some ad := row_some HR.out labC_len (by decide) (by have := HN.out; omega)
        obtain ⟨d0, d1⟩ := lab_cells (HD.out.cm.rd HR.out) hy
        have HY := Lib.hid (HOY.out y (List.mem_of_getElem? hy))
        have HFN := Lib.hid (fold_snoc (f := delF key) (b := F) hy)
        have HNN := Lib.hid (fold_snoc (f := delN key) (b := N) hy)
        generalize (ls.take k).foldl (delF key) F = Fk0 at HD HF1 HFN
        generalize (ls.take k).foldl (delN key) N = Nk0 at HD HN1 HNN
        obtain ⟨y1, y2⟩ := y
        dsimp only at d0 d1
        clear hy
        go_upto_region 6 with fail
        have hb := heap_alloc_new wr (.cells #[.string y1, .string y2] 69 (0, 0))
        have hx1 := Ext.alloc wr (.cells #[.string y1, .string y2] 69)
        obtain ⟨p, hp⟩ : ∃ p, p = wr.heap.size := ⟨_, rfl⟩
        rw [← hp] at hb
        rw [← hp]
        clear hp
        have HD1 := Lib.hid (HD.out.at_.ext hx1)
        have HK1 := Lib.hid (HD.out.kp.then hx1)
        have HC1 := Lib.hid (HD.out.cm.trans (Cm.of_ext hx1))
        clear d0 d1
        generalize wr.alloc (.cells #[.string y1, .string y2] 69) = v1 at hb hx1 HD1 HK1 HC1 ⊢
        clear hx1
        obtain ⟨u, htu, hlu⟩ := HD1.out.lookF (y1, y2) HY.out
        have hrun6 := hlu v1.drew (Ext.drew v1)
        simp only [labV] at hrun6
        have hs0 : v1.cell? ⟨x, 1, none⟩ = some (.map (some b2)) ∧ v1.cell? ⟨p, 0, none⟩ = some (.string y1) ∧ v1.cell? ⟨p, 1, none⟩ = some (.string y2) := ⟨heap_cell HD1.out.blk 1, heap_cell hb 0, heap_cell hb 1⟩
        have HB := Lib.hid hb
        have HTU := Lib.hid htu
        clear hb hlu htu
        go_region_held3 (fun wz => wz.cell? ⟨x, 1, none⟩ = some (.map (some b2)) ∧ wz.cell? ⟨p, 0, none⟩ = some (.string y1) ∧ wz.cell? ⟨p, 1, none⟩ = some (.string y2)) (first | assumption | exact hs5 | exact hs6) (first
          | (go_at_call 67
             refine (del_txt u key _ _ (HTU.out.ext (Ext.drew v1)) (by have := HF1.out (y1, y2); omega)).mono ?_
             rintro e w5 ⟨u5, rfl, hu5, hx5⟩
             have hx5' : Ext v1 w5 := (Ext.drew v1).trans hx5
             have HD5 := Lib.hid (HD1.out.ext hx5')
             have HU5 := Lib.hid hu5
             have HX5 := Lib.hid hx5'
             have hs5 : w5.cell? ⟨x, 1, none⟩ = some (.map (some b2)) ∧ w5.cell? ⟨p, 0, none⟩ = some (.string y1) ∧ w5.cell? ⟨p, 1, none⟩ = some (.string y2) := ⟨hx5'.cell hs0.1, hx5'.cell hs0.2.1, hx5'.cell hs0.2.2⟩
             clear hu5 hx5 hx5')
          | (go_at_call 50
             refine (putL_any b2 Fk0 (y1, y2) u5 _ w5 HD5.out.f HY.out HU5.out).mono ?_
             rintro e w6 ⟨rfl, hm6, hk6, hc6⟩
             have HD6 := Lib.hid (HD5.out.setF hm6 hk6 hc6)
             have HK6 := Lib.hid ((HK1.out.then HX5.out).and (hk6.mono (by simp)))
             have HC6 := Lib.hid ((HC1.out.trans (Cm.of_ext HX5.out)).trans hc6)
             have HB6 := Lib.hid (hc6.cells _ _ _ _ ((Kp.of_ext (L := []) HX5.out).heap HB.out (by simp)))
             have hs6 : w6.cell? ⟨x, 1, none⟩ = some (.map (some b2)) ∧ w6.cell? ⟨p, 0, none⟩ = some (.string y1) ∧ w6.cell? ⟨p, 1, none⟩ = some (.string y2) := ⟨hc6.cell hs5.1, hc6.cell hs5.2.1, hc6.cell hs5.2.2⟩
             clear hm6 hk6 hc6))
        clear hrun6 hs0 hs5 hs6
        obtain ⟨t, htt, hlt⟩ := HD6.out.lookN y1 HY.out.1
        have hrun7 := hlt w6.drew (Ext.drew w6)
        have hs7 : w6.cell? ⟨x, 2, none⟩ = some (.map (some b3)) ∧ w6.cell? ⟨p, 0, none⟩ = some (.string y1) := ⟨heap_cell HD6.out.blk 2, heap_cell HB6.out 0⟩
        have HTT := Lib.hid htt
        clear htt hlt
        go_upto_region 7 with fail
        go_region_held3 (fun wz => wz.cell? ⟨x, 2, none⟩ = some (.map (some b3)) ∧ wz.cell? ⟨p, 0, none⟩ = some (.string y1)) (first | assumption | exact hs8 | exact hs9) (first
          | (go_at_call 67
             refine (del_txt t key _ _ (HTT.out.ext (Ext.drew w6)) (by have := HN1.out y1; omega)).mono ?_
             rintro e w8 ⟨u8, rfl, hu8, hx8⟩
             have hx8' : Ext w6 w8 := (Ext.drew w6).trans hx8
             have HD8 := Lib.hid (HD6.out.ext hx8')
             have HU8 := Lib.hid hu8
             have HX8 := Lib.hid hx8'
             have hs8 : w8.cell? ⟨x, 2, none⟩ = some (.map (some b3)) ∧ w8.cell? ⟨p, 0, none⟩ = some (.string y1) := ⟨hx8'.cell hs7.1, hx8'.cell hs7.2⟩
             clear hu8 hx8 hx8')
          | (go_at_call 52
             refine (putS_any b3 Nk0 y1 u8 _ w8 HD8.out.n HY.out.1 HU8.out).mono ?_
             rintro e w9 ⟨rfl, hm9, hk9, hc9⟩
             have HD9 := Lib.hid (HD8.out.setN hm9 hk9 hc9)
             have HK9 := Lib.hid ((HK6.out.then HX8.out).and (hk9.mono (by simp)))
             have HC9 := Lib.hid ((HC6.out.trans (Cm.of_ext HX8.out)).trans hc9)
             have hs9 : w9.cell? ⟨x, 2, none⟩ = some (.map (some b3)) ∧ w9.cell? ⟨p, 0, none⟩ = some (.string y1) := ⟨hc9.cell hs8.1, hc9.cell hs8.2⟩
             clear hm9 hk9 hc9))
        go_wp2_with fail
        go_roundw
        case rel => exact ⟨k + 1, by omega, by go_num, by rw [HFN.out, HNN.out]; exact ⟨HD9.out, HK9.out, HC9.out⟩, by rw [HFN.out]; exact short_delF HF1.out key (y1, y2), by rw [HNN.out]; exact short_delN HN1.out key (y1, y2)⟩
        case measure => simp [intOf]; omega
      · obtain rfl : k = n := by omega
        have HL : Hid (ls.take k = ls) := Lib.hid (List.take_of_length_le (by rw [HN.out]; exact Nat.le_refl _))
        have hd := HD.out
        rw [HL.out] at hd
        have HD2 := Lib.hid hd
        obtain ⟨w8, hrun8, hm8, hk8, hc8⟩ := hd.at_.g.del Try.strK Try.underlying84 row_cm key hs 0
        have c1 := heap_cell hd.at_.blk 0
        have HM8 := Lib.hid hm8
        have HK8 := Lib.hid hk8
        have HC8 := Lib.hid hc8
        clear hm8 hk8 hc8 hd HD
        go_wp2_with fail
        go_ret
        exact ⟨rfl, ⟨HD2.out.at_.setG HM8.out HK8.out HC8.out, HD2.out.kp.and (HK8.out.mono (by simp)), HD2.out.cm.trans HC8.out⟩⟩
end Go.Proofs.Ytccjbmmhdbainaa
