/- Package index: Set walked. -/
import Derived.Test.YtccjbmmhdbainaaIdxT
namespace Go.Proofs.Ytccjbmmhdbainaa
open Go.RowKit Sets
set_option linter.unusedVariables false
set_option maxRecDepth 100000
set_option linter.unusedSectionVars false
set_option linter.unusedSimpArgs false

def addF (key : ByteArray) (F : Lab → Option (List ByteArray)) (y : Lab) : Lab → Option (List ByteArray) := updF F y (optL (mk orK ((F y).getD []) [key]))
def addN (key : ByteArray) (N : ByteArray → Option (List ByteArray)) (y : Lab) : ByteArray → Option (List ByteArray) := updF N y.1 (optL (mk orK ((N y.1).getD []) [key]))
def lenF {κ : Type} (M : Nat) (F : κ → Option (List ByteArray)) : Prop := ∀ y, ((F y).getD []).length ≤ M
theorem len_upd {κ : Type} [DecidableEq κ] {M : Nat} {F : κ → Option (List ByteArray)} (h : lenF M F) (y : κ) (l : List ByteArray) (hl : l.length ≤ M + 1) : lenF (M + 1) (updF F y (optL l)) := by
  intro z
  unfold updF
  split
  · rw [optL_getD]; exact hl
  · exact Nat.le_succ_of_le (h z)
theorem len_addF {M : Nat} {F : Lab → Option (List ByteArray)} (h : lenF M F) (key : ByteArray) (y : Lab) : lenF (M + 1) (addF key F y) := len_upd h y _ (Nat.le_trans (length_mk_le orK _ _) (by have := h y; simp; omega))
theorem len_addN {M : Nat} {N : ByteArray → Option (List ByteArray)} (h : lenF M N) (key : ByteArray) (y : Lab) : lenF (M + 1) (addN key N y) := len_upd h y.1 _ (Nat.le_trans (length_mk_le orK _ _) (by have := h y.1; simp; omega))
theorem short_foldF (key : ByteArray) : ∀ (ls : List Lab) {F : Lab → Option (List ByteArray)}, shortF F → shortF (ls.foldl (delF key) F)
  | [], _, h => h
  | y :: t, _, h => short_foldF key t (short_delF h key y)
theorem short_foldN (key : ByteArray) : ∀ (ls : List Lab) {N : ByteArray → Option (List ByteArray)}, shortF N → shortF (ls.foldl (delN key) N)
  | [], _, h => h
  | y :: t, _, h => short_foldN key t (short_delN h key y)
/-- What Set leaves of the maps. -/
def dropFs (key : ByteArray) (G : ByteArray → Option (List Lab)) (F : Lab → Option (List ByteArray)) : Lab → Option (List ByteArray) := ((G key).getD []).foldl (delF key) F
def dropNs (key : ByteArray) (G : ByteArray → Option (List Lab)) (N : ByteArray → Option (List ByteArray)) : ByteArray → Option (List ByteArray) := ((G key).getD []).foldl (delN key) N
set_option maxRecDepth 100000 in
set_option maxHeartbeats 8000000 in
theorem set_any {B x b1 b2 b3 : Nat} {w : World} {G : ByteArray → Option (List Lab)} {F : Lab → Option (List ByteArray)} {N : ByteArray → Option (List ByteArray)} (h : IdxM B w x G F N b1 b2 b3) (key : ByteArray) (v : Value) (l : List Lab) (hs : okS key)
    (hl : Row labC w v l) (hlen : l.length ≤ 100000) (hoky : ∀ y ∈ l, okL y) (hF : shortF F) (hN : shortF N) (hG : ∀ ls, G key = some ls → ls.length ≤ 100000 ∧ ∀ y ∈ ls, okL y) :
    Calls Try.prog 34 #[.pointer (some ⟨x, 0, none⟩), .string key, v] w fun e w' => ((keyI key && rightI l) = false ∧ e = .returned (.int .i64 1) ∧ Ext w w') ∨
      ((keyI key && rightI l) = true ∧ e = .returned (.int .i64 0) ∧ ∃ a, a.Perm l ∧ SrtA a.length a ∧ IDid B w w' x (updF (updF G key none) key (some a)) (l.foldl (addF key) (dropFs key G F)) (l.foldl (addN key) (dropNs key G N)) b1 b2 b3) := by
  have H := Lib.hid h
  have HROW := Lib.hid hl
  obtain ⟨A, n, c, rfl, hn, hnc, hcm, hr⟩ := hl
  have hc' : c ≤ 9223372036854775807 := by simpa [maxLen] using hcm
  have HN := Lib.hid hn
  have HR := Lib.hid hr
  have HOY := Lib.hid hoky
  have HSF := Lib.hid hF
  have HSN := Lib.hid hN
  have HG := Lib.hid hG
  have hn1 : n ≤ 100000 := by rw [← hn]; exact hlen
  clear h hn hr hoky hF hN hG hcm
  go_enter Try.func34, Try.ntmps34
  go_wp2_with fail
  refine (key_any key w hs).mono ?_
  rintro e _ ⟨rfl, rfl⟩
  cases hk : keyI key with
  | false =>
    go_wp2_with fail
    go_ret
    exact .inl ⟨by rw [hk]; rfl, rfl, Ext.refl _⟩
  | true =>
    go_wp2_with fail
    refine (right_any _ l w HROW.out HOY.out hlen).mono ?_
    rintro e v1 ⟨rfl, hx⟩
    have HX1 := Lib.hid hx
    clear hx
    cases hri : rightI l with
    | false =>
      go_wp2_with fail
      go_ret
      exact .inl ⟨by rw [hk, hri]; rfl, rfl, HX1.out⟩
    | true =>
      have hgd : goodI l = true := by
        unfold rightI at hri
        rw [Bool.and_eq_true] at hri
        exact hri.1
      have HGD := Lib.hid hgd
      have HKR : Hid ((keyI key && rightI l) = true) := Lib.hid (by rw [hk, hri]; rfl)
      clear hgd hk hri
      go_wp2_with fail
      refine (drop_any (H.out.ext HX1.out) key hs HSF.out HSN.out HG.out).mono ?_
      rintro e v2 ⟨rfl, hd⟩
      have HD2 := Lib.hid hd
      have hs0 := heap_cell hd.at_.blk 0
      clear hd
      obtain ⟨F0, hF0⟩ : ∃ F0, F0 = dropFs key G F := ⟨_, rfl⟩
      obtain ⟨N0, hN0⟩ : ∃ N0, N0 = dropNs key G N := ⟨_, rfl⟩
      have HF0 := Lib.hid hF0
      have HN0 := Lib.hid hN0
      have HL0 : Hid (lenF (1000000 + 0) F0) := Lib.hid (by rw [hF0]; exact short_foldF key _ HSF.out)
      have HM0 : Hid (lenF (1000000 + 0) N0) := Lib.hid (by rw [hN0]; exact short_foldN key _ HSN.out)
      have HDD : Hid (IDid B w v2 x (updF G key none) F0 N0 b1 b2 b3) := Lib.hid (by rw [hF0, hN0]; exact ⟨HD2.out.at_, (Kp.of_ext HX1.out).and HD2.out.kp, (Cm.of_ext HX1.out).trans HD2.out.cm⟩)
      clear hF0 hN0 HD2
      go_upto_region 6 with fail
      go_region_held3 (fun wz => wz.cell? ⟨x, 0, none⟩ = some (.map (some b1))) (first | assumption | exact hs3 | exact hs4) (first
        | (go_at_call 49
           refine (sortedI_any _ l _ (Row.ext (HDD.out.cm.row HROW.out) (Ext.drew v2)) HOY.out hlen HGD.out).mono ?_
           rintro e w3 ⟨u, a, rfl, hu, hp, hsr, hx⟩
           have hx3 : Ext v2 w3 := (Ext.drew v2).trans hx
           have hd3 := HDD.out.at_.ext hx3
           obtain ⟨w4, hrun4, hm4, hk4, hc4⟩ := hd3.g.put Try.strK Try.underlying84 row_cm key hs u a hu
           have HPA := Lib.hid hp
           have HSR := Lib.hid hsr
           have hs3 := heap_cell hd3.blk 0
           have hs4 := hc4.cell hs3
           have HD4 : Hid (IDid B w w4 x (updF (updF G key none) key (some a)) F0 N0 b1 b2 b3) := Lib.hid ⟨hd3.setG hm4 hk4 hc4, (HDD.out.kp.then hx3).and (hk4.mono (by simp)), (HDD.out.cm.trans (Cm.of_ext hx3)).trans hc4⟩
           clear hu hp hsr hx hx3 hd3 hm4 hk4 hc4))
      clear hs0 hs3 hs4
      generalize hG4 : updF (updF G key none) key (some a) = G4 at HD4
      have HG4 := Lib.hid hG4
      clear hG4
      go_wp2_with fail
      go_loopw [33] (fun i wr => ∃ k : Nat, k ≤ n ∧ i = .int .i64 (k : Int) ∧ IDid B w wr x G4 ((l.take k).foldl (addF key) F0) ((l.take k).foldl (addN key) N0) b1 b2 b3 ∧ lenF (1000000 + k) ((l.take k).foldl (addF key) F0) ∧ lenF (1000000 + k) ((l.take k).foldl (addN key) N0)) (fun i _ => n - (intOf i).toNat)
      case atStart => exact ⟨0, by omega, rfl, HD4.out, HL0.out, HM0.out⟩
      case round =>
        obtain ⟨k, hk, rfl, hd, hsf, hsn⟩ := hrel
        have HD := Lib.hid hd
        have HF1 := Lib.hid hsf
        have HN1 := Lib.hid hsn
        clear hd hsf hsn
        by_cases hkn : k < n
        · have hkI : (k : Int) < (n : Int) := by omega
          have hkJ : (0 : Int) ≤ (k : Int) := by omega
          obtain ⟨y, hy⟩ : ∃ y, l[k]? = some y := ⟨_, List.getElem?_eq_getElem (by have := HN.out; omega)⟩
          obtain ⟨ad, rfl⟩ : ∃ ad, A = some ad := row_some HR.out labC_len (by decide) (by have := HN.out; omega)
          obtain ⟨d0, d1⟩ := lab_cells (HD.out.cm.rd HR.out) hy
          have HY := Lib.hid (HOY.out y (List.mem_of_getElem? hy))
          have HFN := Lib.hid (fold_snoc (f := addF key) (b := F0) hy)
          have HNN := Lib.hid (fold_snoc (f := addN key) (b := N0) hy)
          generalize (l.take k).foldl (addF key) F0 = Fk0 at HD HF1 HFN
          generalize (l.take k).foldl (addN key) N0 = Nk0 at HD HN1 HNN
          obtain ⟨y1, y2⟩ := y
          dsimp only at d0 d1
          clear hy
          go_upto_region 10 with fail
          have hb := heap_alloc_new wr (.cells #[.string y1, .string y2] 69 (0, 0))
          have hx1 := Ext.alloc wr (.cells #[.string y1, .string y2] 69)
          obtain ⟨p, hp⟩ : ∃ p, p = wr.heap.size := ⟨_, rfl⟩
          rw [← hp] at hb
          rw [← hp]
          clear hp
          have HD1 := Lib.hid (HD.out.at_.ext hx1)
          have HK1 := Lib.hid (HD.out.kp.then hx1)
          have HC1 := Lib.hid (HD.out.cm.trans (Cm.of_ext hx1))
          clear d0 d1
          generalize wr.alloc (.cells #[.string y1, .string y2] 69) = v1 at hb hx1 HD1 HK1 HC1 ⊢
          clear hx1
          obtain ⟨u, htu, hlu⟩ := HD1.out.lookF (y1, y2) HY.out
          have hrun6 := hlu v1.drew (Ext.drew v1)
          simp only [labV] at hrun6
          have hs0 : v1.cell? ⟨x, 1, none⟩ = some (.map (some b2)) ∧ v1.cell? ⟨p, 0, none⟩ = some (.string y1) ∧ v1.cell? ⟨p, 1, none⟩ = some (.string y2) := ⟨heap_cell HD1.out.blk 1, heap_cell hb 0, heap_cell hb 1⟩
          have HB := Lib.hid hb
          have HTU := Lib.hid htu
          clear hb hlu htu
          go_region_held3 (fun wz => wz.cell? ⟨x, 1, none⟩ = some (.map (some b2)) ∧ wz.cell? ⟨p, 0, none⟩ = some (.string y1) ∧ wz.cell? ⟨p, 1, none⟩ = some (.string y2)) (first | assumption | exact hs5 | exact hs6) (first
            | (go_at_call 51
               refine (add_txt u key _ _ (HTU.out.ext (Ext.drew v1)) (by have := HF1.out (y1, y2); omega)).mono ?_
               rintro e w5 ⟨u5, rfl, hu5, hx5⟩
               have hx5' : Ext v1 w5 := (Ext.drew v1).trans hx5
               have HD5 := Lib.hid (HD1.out.ext hx5')
               have HU5 := Lib.hid hu5
               have HX5 := Lib.hid hx5'
               have hs5 : w5.cell? ⟨x, 1, none⟩ = some (.map (some b2)) ∧ w5.cell? ⟨p, 0, none⟩ = some (.string y1) ∧ w5.cell? ⟨p, 1, none⟩ = some (.string y2) := ⟨hx5'.cell hs0.1, hx5'.cell hs0.2.1, hx5'.cell hs0.2.2⟩
               clear hu5 hx5 hx5')
            | (go_at_call 50
               refine (putL_any b2 Fk0 (y1, y2) u5 _ w5 HD5.out.f HY.out HU5.out).mono ?_
               rintro e w6 ⟨rfl, hm6, hk6, hc6⟩
               have HD6 := Lib.hid (HD5.out.setF hm6 hk6 hc6)
               have HK6 := Lib.hid ((HK1.out.then HX5.out).and (hk6.mono (by simp)))
               have HC6 := Lib.hid ((HC1.out.trans (Cm.of_ext HX5.out)).trans hc6)
               have HB6 := Lib.hid (hc6.cells _ _ _ _ ((Kp.of_ext (L := []) HX5.out).heap HB.out (by simp)))
               have hs6 : w6.cell? ⟨x, 1, none⟩ = some (.map (some b2)) ∧ w6.cell? ⟨p, 0, none⟩ = some (.string y1) ∧ w6.cell? ⟨p, 1, none⟩ = some (.string y2) := ⟨hc6.cell hs5.1, hc6.cell hs5.2.1, hc6.cell hs5.2.2⟩
               clear hm6 hk6 hc6))
          clear hrun6 hs0 hs5 hs6
          obtain ⟨t, htt, hlt⟩ := HD6.out.lookN y1 HY.out.1
          have hrun7 := hlt w6.drew (Ext.drew w6)
          have hs7 : w6.cell? ⟨x, 2, none⟩ = some (.map (some b3)) ∧ w6.cell? ⟨p, 0, none⟩ = some (.string y1) := ⟨heap_cell HD6.out.blk 2, heap_cell HB6.out 0⟩
          have HTT := Lib.hid htt
          clear htt hlt
          go_upto_region 11 with fail
          go_region_held3 (fun wz => wz.cell? ⟨x, 2, none⟩ = some (.map (some b3)) ∧ wz.cell? ⟨p, 0, none⟩ = some (.string y1)) (first | assumption | exact hs8 | exact hs9) (first
            | (go_at_call 51
               refine (add_txt t key _ _ (HTT.out.ext (Ext.drew w6)) (by have := HN1.out y1; omega)).mono ?_
               rintro e w8 ⟨u8, rfl, hu8, hx8⟩
               have hx8' : Ext w6 w8 := (Ext.drew w6).trans hx8
               have HD8 := Lib.hid (HD6.out.ext hx8')
               have HU8 := Lib.hid hu8
               have HX8 := Lib.hid hx8'
               have hs8 : w8.cell? ⟨x, 2, none⟩ = some (.map (some b3)) ∧ w8.cell? ⟨p, 0, none⟩ = some (.string y1) := ⟨hx8'.cell hs7.1, hx8'.cell hs7.2⟩
               clear hu8 hx8 hx8')
            | (go_at_call 52
               refine (putS_any b3 Nk0 y1 u8 _ w8 HD8.out.n HY.out.1 HU8.out).mono ?_
               rintro e w9 ⟨rfl, hm9, hk9, hc9⟩
               have HD9 := Lib.hid (HD8.out.setN hm9 hk9 hc9)
               have HK9 := Lib.hid ((HK6.out.then HX8.out).and (hk9.mono (by simp)))
               have HC9 := Lib.hid ((HC6.out.trans (Cm.of_ext HX8.out)).trans hc9)
               have hs9 : w9.cell? ⟨x, 2, none⟩ = some (.map (some b3)) ∧ w9.cell? ⟨p, 0, none⟩ = some (.string y1) := ⟨hc9.cell hs8.1, hc9.cell hs8.2⟩
               clear hm9 hk9 hc9))
          go_wp2_with fail
          go_roundw
          case rel => exact ⟨k + 1, by omega, by go_num, by rw [HFN.out, HNN.out]; exact ⟨HD9.out, HK9.out, HC9.out⟩, by rw [HFN.out]; exact len_addF HF1.out key (y1, y2), by rw [HNN.out]; exact len_addN HN1.out key (y1, y2)⟩
          case measure => simp [intOf]; omega
        · obtain rfl : k = n := by omega
          have HL : Hid (l.take k = l) := Lib.hid (List.take_of_length_le (by rw [HN.out]; exact Nat.le_refl _))
          have hd := HD.out
          rw [HL.out, HF0.out, HN0.out, ← HG4.out] at hd
          have HD2 := Lib.hid hd
          clear hd HD
          go_wp2_with fail
          go_ret
          exact .inr ⟨HKR.out, rfl, a, HPA.out, HSR.out, HD2.out⟩
end Go.Proofs.Ytccjbmmhdbainaa
