/- IndexCopies walked. -/
import Derived.Test.YtebcjpapmjebgaaIdxP
namespace Go.Proofs.Ytebcjpapmjebgaa
open Go.RowKit Sets
set_option linter.unusedVariables false
set_option linter.unusedSectionVars false
set_option linter.unusedSimpArgs false

/-- An index, and a copy of what it was. -/
structure Cx (w v : World) (x : Nat) (L : List Nat) (M : Mod) (c : Nat) (L' : List Nat) (Mc : Mod) : Prop where
  at_ : Gx w v x L M
  cp : IdxL w.heap.size v c L' Mc
  dj : ∀ k ∈ L', k ∉ L
theorem Cx.later {w v v' : World} {x c : Nat} {L L' : List Nat} {M Mc : Mod} (h : Cx w v x L M c L' Mc) (k : Ext v v') : Cx w v' x L M c L' Mc := ⟨h.at_.later k, h.cp.ext k, h.dj⟩
theorem Cx.did {w v v' : World} {x c : Nat} {L L' : List Nat} {M M' Mc : Mod} (h : Cx w v x L M c L' Mc) (hi : IdxL w.heap.size v' x L M') (hk : Kp L v v') (hc : Cm v v') : Cx w v' x L M' c L' Mc := ⟨h.at_.did hi hk, h.cp.kp hk hc h.dj, h.dj⟩
/-- What a law keeps beside: a label in a block, and three lists. -/
structure Kx (v : World) (p : Nat) (y : Lab) (uf uw uk : Value) (M : Mod) : Prop where
  box : v.heap[p]? = some (.cells #[.string y.1, .string y.2] 24 (0, 0))
  f : Txt v uf (findM M y)
  w : Txt v uw (withM M y.1)
  k : Txt v uk (keysM M)
theorem Kx.cm {v v' : World} {p : Nat} {y : Lab} {uf uw uk : Value} {M : Mod} (h : Kx v p y uf uw uk M) (k : Cm v v') : Kx v' p y uf uw uk M := ⟨k.cells _ _ _ _ h.box, k.txt h.f, k.txt h.w, k.txt h.k⟩
set_option maxRecDepth 100000 in
set_option maxHeartbeats 8000000 in
theorem indexCopies_any (v v2 : Value) (xs ys : List IOp) (y : Lab) (w : World) (h : Row opC w v xs) (hok : ∀ o ∈ xs, IOpOk w o) (h2 : Row opC w v2 ys) (hok2 : ∀ o ∈ ys, IOpOk w o) (hy : okL y) :
    Calls Try.prog 7 #[v, v2, labV y] w fun e w' => e = .returned (.bool true) ∧ Ext w w' := by
  have HROW := Lib.hid h
  have HOK1 := Lib.hid hok
  have HY := Lib.hid hy
  obtain ⟨A1, n1, c1, rfl, _⟩ := h
  obtain ⟨A, n, c, rfl, hn, hnc, hc, hr⟩ := h2
  have hc' : c ≤ 9223372036854775807 := by simpa [maxLen] using hc
  have HR := Lib.hid hr
  have HN := Lib.hid hn
  have HOK := Lib.hid hok2
  clear hok hok2 hr hn hc hy
  obtain ⟨y1, y2⟩ := y
  simp only [labV]
  go_enter Try.func7, Try.ntmps7
  go_wp2_with fail
  have hb := heap_alloc_new w (.cells #[.string y1, .string y2] 24 (0, 0))
  have hx1 := Ext.alloc w (.cells #[.string y1, .string y2] 24)
  generalize w.alloc (.cells #[.string y1, .string y2] 24) = w1 at hb hx1 ⊢
  obtain ⟨p, hp⟩ : ∃ p, p = w.heap.size := ⟨_, rfl⟩
  rw [← hp] at hb
  rw [← hp]
  clear hp
  refine (build_any _ xs w1 (Cm.row (Cm.of_ext hx1) HROW.out) (fun o ho => (HOK1.out o ho).ext hx1)).mono ?_
  rintro e v1 ⟨x, L, M, rfl, hg, hml⟩
  have HG : Hid (Gx w v1 x L M) := Lib.hid ⟨hg.at_.base hx1.size, hx1.trans hg.ext⟩
  have HB := Lib.hid ((Cm.of_ext hg.ext).cells _ _ _ _ hb)
  clear hg hb HROW HOK1 hx1
  have hb0 := heap_cell HB.out 0
  have hb1 := heap_cell HB.out 1
  by_cases hl1 : y1.size ≤ 100
  · have g1 : decide ((100 : Int) < (y1.size : Int)) = false := decide_eq_false (by omega)
    clear hl1
    by_cases hl2 : y2.size ≤ 100
    · have g2 : decide ((100 : Int) < (y2.size : Int)) = false := decide_eq_false (by omega)
      clear hl2
      go_wp2_with fail
      refine (find_list HG.out.at_ (y1, y2) HY.out (by omega)).mono ?_
      rintro e v3 ⟨uf, rfl, hf, hx⟩
      have HG3 := Lib.hid (HG.out.later hx)
      have HB3 := Lib.hid ((Cm.of_ext hx).cells _ _ _ _ HB.out)
      have HF3 := Lib.hid hf
      clear hb0 hb1 HG HB hf hx
      have hb0 := heap_cell HB3.out 0
      go_wp2_with fail
      refine (with_list HG3.out.at_ y1 HY.out.1 (by omega)).mono ?_
      rintro e v4 ⟨uw, rfl, hw, hx⟩
      have HG4 := Lib.hid (HG3.out.later hx)
      have HB4 := Lib.hid ((Cm.of_ext hx).cells _ _ _ _ HB3.out)
      have HF4 := Lib.hid (HF3.out.ext hx)
      have HW4 := Lib.hid hw
      clear hb0 HG3 HB3 HF3 hw hx
      go_wp2_with fail
      refine (keys_list HG4.out.at_ (by omega)).mono ?_
      rintro e v5 ⟨uk, rfl, hk, hx⟩
      have HG5 := Lib.hid (HG4.out.later hx)
      have HKX5 : Hid (Kx v5 p (y1, y2) uf uw uk M) := Lib.hid ⟨(Cm.of_ext hx).cells _ _ _ _ HB4.out, HF4.out.ext hx, HW4.out.ext hx, hk⟩
      clear HG4 HB4 HF4 HW4 hk hx
      go_wp2_with fail
      refine (copy_list HG5.out.at_ (by omega)).mono ?_
      rintro e v6 ⟨cc, L', rfl, hcp, hx⟩
      have HCX6 : Hid (Cx w v6 x L M cc L' M) := Lib.hid ⟨HG5.out.later hx, hcp.base HG5.out.ext.size, fun k hk hkl => by
        have h1 := hcp.blocks k hk
        have h2 := HG5.out.at_.blocks k hkl
        omega⟩
      have HKX6 := Lib.hid (HKX5.out.cm (Cm.of_ext hx))
      clear HG5 HKX5 hcp hx
      go_wp2_with fail
      go_loopw [12] (fun i wr => ∃ (k : Nat) (M' : Mod), k ≤ n ∧ k ≤ 20 ∧ i = .int .i64 (k : Int) ∧ Cx w wr x L M' cc L' M ∧ Kx wr p (y1, y2) uf uw uk M ∧ M'.length ≤ 40 + k) (fun i _ => n - (intOf i).toNat)
      case atStart => exact ⟨0, M, by omega, by omega, rfl, HCX6.out, HKX6.out, by omega⟩
      case round =>
        obtain ⟨k, M', hk, hk40, rfl, hcx, hkx, hml2⟩ := hrel
        have HCX := Lib.hid hcx
        have HKX := Lib.hid hkx
        clear hcx hkx
        by_cases hkn : k < n
        · by_cases hk4 : k < 20
          · obtain ⟨ad, rfl⟩ : ∃ ad, A = some ad := row_some HR.out opC_len (by decide) (by have := HN.out; omega)
            obtain ⟨o, ho⟩ : ∃ o, ys[k]? = some o := ⟨_, List.getElem?_eq_getElem (by have := HN.out; omega)⟩
            have HC := Lib.hid (fun wz (hw : Ext w wz) => iop_cells (HR.out.ext hw) ho)
            obtain ⟨c0, c1, c2⟩ := HC.out wr HCX.out.at_.ext
            have HO := Lib.hid (HOK.out o (List.mem_of_getElem? ho))
            obtain ⟨kd, key, u, ls⟩ := o
            dsimp only at c0 c1 c2
            clear ho
            go_wp2_with fail
            clear c0 c1 c2
            refine (light_any ⟨kd, key, u, ls⟩ wr (HO.out.ext HCX.out.at_.ext)).mono ?_
            rintro e v3 ⟨lt, rfl, hlt, hx⟩
            have HCX3 := Lib.hid (HCX.out.later hx)
            have HKX3 := Lib.hid (HKX.out.cm (Cm.of_ext hx))
            clear HCX HKX hx
            cases lt with
            | false =>
              clear hlt
              go_wp2_with fail
              go_roundw
              case rel => exact ⟨k + 1, M', by omega, by omega, by go_num, HCX3.out, HKX3.out, by omega⟩
              case measure => simp [intOf]; omega
            | true =>
              have HLT := Lib.hid (hlt rfl)
              clear hlt
              obtain ⟨c0, c1, c2⟩ := HC.out v3 HCX3.out.at_.ext
              go_wp2_with fail
              go_region_held3 (fun wz => wz.cell? ⟨(ad.add (k * 3)).block, (ad.add (k * 3)).off + 1, none⟩ = some (.string key) ∧ wz.cell? ⟨(ad.add (k * 3)).block, (ad.add (k * 3)).off + 2, none⟩ = some u) (first | assumption | exact ⟨d1, d2⟩ | exact ⟨c1, c2⟩) (first
                | (go_at_call 12
                   refine (set_list (HCX3.out.at_.at_.ext (Ext.drew v3)) key u ls HO.out.key ((HO.out.ext (HCX3.out.at_.ext.trans (Ext.drew v3))).row) (by have h9 : ls.length ≤ 12 := HLT.out; omega) HO.out.labs (by omega)).mono ?_
                   rintro e v4 ⟨rfl, hi, hkp, hcm⟩
                   have HCX4 := Lib.hid ((HCX3.out.later (Ext.drew v3)).did hi hkp hcm)
                   have HKX4 := Lib.hid (HKX3.out.cm ((Cm.of_ext (Ext.drew v3)).trans hcm))
                   have d1 := hcm.cell ((Ext.drew v3).cell c1)
                   have d2 := hcm.cell ((Ext.drew v3).cell c2)
                   clear hi hkp hcm))
              clear c0 c1 c2 d1 d2
              go_wp2_with fail
              go_roundw
              case rel => exact ⟨k + 1, putM M' key ls, by omega, by omega, by go_num, HCX4.out, HKX4.out, by have := len_put M' key ls; omega⟩
              case measure => simp [intOf]; omega
          · have hk42 : 20 ≤ k := by omega
            clear HR HOK HN
            have hb0 := heap_cell HKX.out.box 0
            have hb1 := heap_cell HKX.out.box 1
            dsimp only at hb0 hb1
            go_wp2_with fail
            refine (find_list HCX.out.cp (y1, y2) HY.out (by omega)).mono ?_
            rintro e v6 ⟨g1, rfl, ht6, hx6⟩
            have HCX6 := Lib.hid (HCX.out.later hx6)
            have HKX6 := Lib.hid (HKX.out.cm (Cm.of_ext hx6))
            have HT6 := Lib.hid ht6
            clear HCX HKX ht6 hx6 hb0 hb1
            go_wp2_with fail
            refine (same_yes g1 uf _ _ v6 HT6.out HKX6.out.f rfl).mono ?_
            rintro e v7 ⟨rfl, hx7⟩
            have HCX7 := Lib.hid (HCX6.out.later hx7)
            have HKX7 := Lib.hid (HKX6.out.cm (Cm.of_ext hx7))
            clear HCX6 HKX6 HT6 hx7
            have hb0 := heap_cell HKX7.out.box 0
            dsimp only at hb0
            go_wp2_with fail
            refine (with_list HCX7.out.cp y1 HY.out.1 (by omega)).mono ?_
            rintro e v8 ⟨g2, rfl, ht8, hx8⟩
            have HCX8 := Lib.hid (HCX7.out.later hx8)
            have HKX8 := Lib.hid (HKX7.out.cm (Cm.of_ext hx8))
            have HT8 := Lib.hid ht8
            clear HCX7 HKX7 ht8 hx8 hb0
            go_wp2_with fail
            refine (same_yes g2 uw _ _ v8 HT8.out HKX8.out.w rfl).mono ?_
            rintro e v9 ⟨rfl, hx9⟩
            have HCX9 := Lib.hid (HCX8.out.later hx9)
            have HKX9 := Lib.hid (HKX8.out.cm (Cm.of_ext hx9))
            clear HCX8 HKX8 HT8 hx9
            go_wp2_with fail
            refine (keys_list HCX9.out.cp (by omega)).mono ?_
            rintro e v10 ⟨g3, rfl, ht10, hx10⟩
            have HCX10 := Lib.hid (HCX9.out.later hx10)
            have HKX10 := Lib.hid (HKX9.out.cm (Cm.of_ext hx10))
            have HT10 := Lib.hid ht10
            clear HCX9 HKX9 ht10 hx10
            go_wp2_with fail
            refine (same_yes g3 uk _ _ v10 HT10.out HKX10.out.k rfl).mono ?_
            rintro e v12 ⟨rfl, hx12⟩
            go_wp2_with fail
            refine (known_any _).mono ?_
            rintro e v11 ⟨rfl, hx11⟩
            go_wp2_with fail
            go_ret
            exact ⟨rfl, (HCX10.out.at_.ext.trans hx12).trans hx11⟩
        · clear HR HOK HN
          have hb0 := heap_cell HKX.out.box 0
          have hb1 := heap_cell HKX.out.box 1
          dsimp only at hb0 hb1
          go_wp2_with fail
          refine (find_list HCX.out.cp (y1, y2) HY.out (by omega)).mono ?_
          rintro e v6 ⟨g1, rfl, ht6, hx6⟩
          have HCX6 := Lib.hid (HCX.out.later hx6)
          have HKX6 := Lib.hid (HKX.out.cm (Cm.of_ext hx6))
          have HT6 := Lib.hid ht6
          clear HCX HKX ht6 hx6 hb0 hb1
          go_wp2_with fail
          refine (same_yes g1 uf _ _ v6 HT6.out HKX6.out.f rfl).mono ?_
          rintro e v7 ⟨rfl, hx7⟩
          have HCX7 := Lib.hid (HCX6.out.later hx7)
          have HKX7 := Lib.hid (HKX6.out.cm (Cm.of_ext hx7))
          clear HCX6 HKX6 HT6 hx7
          have hb0 := heap_cell HKX7.out.box 0
          dsimp only at hb0
          go_wp2_with fail
          refine (with_list HCX7.out.cp y1 HY.out.1 (by omega)).mono ?_
          rintro e v8 ⟨g2, rfl, ht8, hx8⟩
          have HCX8 := Lib.hid (HCX7.out.later hx8)
          have HKX8 := Lib.hid (HKX7.out.cm (Cm.of_ext hx8))
          have HT8 := Lib.hid ht8
          clear HCX7 HKX7 ht8 hx8 hb0
          go_wp2_with fail
          refine (same_yes g2 uw _ _ v8 HT8.out HKX8.out.w rfl).mono ?_
          rintro e v9 ⟨rfl, hx9⟩
          have HCX9 := Lib.hid (HCX8.out.later hx9)
          have HKX9 := Lib.hid (HKX8.out.cm (Cm.of_ext hx9))
          clear HCX8 HKX8 HT8 hx9
          go_wp2_with fail
          refine (keys_list HCX9.out.cp (by omega)).mono ?_
          rintro e v10 ⟨g3, rfl, ht10, hx10⟩
          have HCX10 := Lib.hid (HCX9.out.later hx10)
          have HKX10 := Lib.hid (HKX9.out.cm (Cm.of_ext hx10))
          have HT10 := Lib.hid ht10
          clear HCX9 HKX9 ht10 hx10
          go_wp2_with fail
          refine (same_yes g3 uk _ _ v10 HT10.out HKX10.out.k rfl).mono ?_
          rintro e v12 ⟨rfl, hx12⟩
          go_wp2_with fail
          refine (known_any _).mono ?_
          rintro e v11 ⟨rfl, hx11⟩
          go_wp2_with fail
          go_ret
          exact ⟨rfl, (HCX10.out.at_.ext.trans hx12).trans hx11⟩
    · have g2 : decide ((100 : Int) < (y2.size : Int)) = true := decide_eq_true (by omega)
      go_wp2_with fail
      refine (known_any _).mono ?_
      rintro e v3 ⟨rfl, hx3⟩
      go_wp2_with fail
      go_ret
      exact ⟨rfl, HG.out.ext.trans hx3⟩
  · have g1 : decide ((100 : Int) < (y1.size : Int)) = true := decide_eq_true (by omega)
    go_wp2_with fail
    refine (known_any _).mono ?_
    rintro e v3 ⟨rfl, hx3⟩
    go_wp2_with fail
    go_ret
    exact ⟨rfl, HG.out.ext.trans hx3⟩
end Go.Proofs.Ytebcjpapmjebgaa
