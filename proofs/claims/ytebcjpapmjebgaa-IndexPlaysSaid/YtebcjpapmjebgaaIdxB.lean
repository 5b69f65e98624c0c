/- Layer 9's build, walked. -/
import Derived.Test.YtebcjpapmjebgaaIdxH
import Derived.Deep.RegionHeld3
namespace Go.Proofs.Ytebcjpapmjebgaa
open Go.RowKit Sets
set_option linter.unusedVariables false
set_option linter.unusedSectionVars false
set_option linter.unusedSimpArgs false

theorem iop_cells {w : World} {ad : Addr} {xs : List IOp} {k : Nat} {o : IOp} (h : Rd w (some ad) (xs.flatMap opC)) (hx : xs[k]? = some o) :
    w.cell? (ad.add (k * 3)) = some (.int .i64 o.kind) ∧ w.cell? ⟨(ad.add (k * 3)).block, (ad.add (k * 3)).off + 1, none⟩ = some (.string o.key) ∧ w.cell? ⟨(ad.add (k * 3)).block, (ad.add (k * 3)).off + 2, none⟩ = some o.v :=
  ⟨row_cell opC_len h k 0 hx rfl, row_field opC_len h k 1 (by decide) hx rfl, row_field opC_len h k 2 (by decide) hx rfl⟩
set_option maxRecDepth 100000 in
set_option maxHeartbeats 4000000 in
theorem build_any (v : Value) (xs : List IOp) (w : World) (h : Row opC w v xs) (hok : ∀ o ∈ xs, IOpOk w o) :
    Calls Try.prog 33 #[v] w fun e w' => ∃ x L M, e = .returned (.pointer (some ⟨x, 0, none⟩)) ∧ Gx w w' x L M ∧ M.length ≤ 40 := by
  obtain ⟨A, n, c, rfl, hn, hnc, hc, hr⟩ := h
  have hc' : c ≤ 9223372036854775807 := by simpa [maxLen] using hc
  have HR := Lib.hid hr
  have HN := Lib.hid hn
  have HOK := Lib.hid hok
  clear hr hn hok hc
  go_enter Try.func33, Try.ntmps33
  go_wp2_with fail
  refine (new_list w).mono ?_
  rintro e v1 ⟨x, L, rfl, hi, hx⟩
  have HG1 := Lib.hid (⟨hi, hx⟩ : Gx w v1 x L [])
  clear hi hx
  go_wp2_with fail
  go_loopw [4] (fun i wr => ∃ (k : Nat) (M : Mod), k ≤ n ∧ k ≤ 40 ∧ i = .int .i64 (k : Int) ∧ Gx w wr x L M ∧ M.length ≤ k) (fun i _ => n - (intOf i).toNat)
  case atStart => exact ⟨0, [], by omega, by omega, rfl, HG1.out, by simp⟩
  case round =>
    obtain ⟨k, M, hk, hk40, rfl, hgx, hml⟩ := hrel
    have HG := Lib.hid hgx
    clear hgx
    by_cases hkn : k < n
    · by_cases hk4 : k < 40
      · obtain ⟨ad, rfl⟩ : ∃ ad, A = some ad := row_some HR.out opC_len (by decide) (by have := HN.out; omega)
        obtain ⟨o, ho⟩ : ∃ o, xs[k]? = some o := ⟨_, List.getElem?_eq_getElem (by have := HN.out; omega)⟩
        have HC := Lib.hid (fun wz (hw : Ext w wz) => iop_cells (HR.out.ext hw) ho)
        obtain ⟨c0, c1, c2⟩ := HC.out wr HG.out.ext
        have HO := Lib.hid (HOK.out o (List.mem_of_getElem? ho))
        obtain ⟨kd, key, u, ls⟩ := o
        dsimp only at c0 c1 c2
        clear ho
        go_wp2_with fail
        clear c0 c1 c2
        refine (light_any ⟨kd, key, u, ls⟩ wr (HO.out.ext HG.out.ext)).mono ?_
        rintro e v3 ⟨lt, rfl, hlt, hx⟩
        have HG3 := Lib.hid (HG.out.later hx)
        clear HG hx
        cases lt with
        | false =>
          clear hlt
          go_wp2_with fail
          go_roundw
          case rel => exact ⟨k + 1, M, by omega, by omega, by go_num, HG3.out, by omega⟩
          case measure => simp [intOf]; omega
        | true =>
          have HLT := Lib.hid (hlt rfl)
          clear hlt
          obtain ⟨c0, c1, c2⟩ := HC.out v3 HG3.out.ext
          by_cases hkd : kd = 1
          · subst hkd
            go_wp2_with fail
            clear c0 c1 c2
            refine (drop_list HG3.out.at_ key HO.out.key (by omega)).mono ?_
            rintro e v4 ⟨rfl, hi, hkp, hcm⟩
            have HG4 := Lib.hid (HG3.out.did hi hkp)
            clear HG3 hi hkp hcm
            go_wp2_with fail
            go_roundw
            case rel => exact ⟨k + 1, dropM M key, by omega, by omega, by go_num, HG4.out, by have := len_drop M key; omega⟩
            case measure => simp [intOf]; omega
          · have hkd2 : (kd == 1) = false := by rw [beq_eq_false_iff_ne]; exact hkd
            clear hkd
            go_wp2_with fail
            go_region_held3 (fun wz => wz.cell? ⟨(ad.add (k * 3)).block, (ad.add (k * 3)).off + 1, none⟩ = some (.string key) ∧ wz.cell? ⟨(ad.add (k * 3)).block, (ad.add (k * 3)).off + 2, none⟩ = some u) (first | assumption | exact ⟨d1, d2⟩ | exact ⟨c1, c2⟩) (first
              | (go_at_call 12
                 refine (set_list (HG3.out.at_.ext (Ext.drew v3)) key u ls HO.out.key ((HO.out.ext (HG3.out.ext.trans (Ext.drew v3))).row) (by have h9 : ls.length ≤ 12 := HLT.out; omega) HO.out.labs (by omega)).mono ?_
                 rintro e v4 ⟨rfl, hi, hkp, hcm⟩
                 have HG4 := Lib.hid ((HG3.out.later (Ext.drew v3)).did hi hkp)
                 have d1 := hcm.cell ((Ext.drew v3).cell c1)
                 have d2 := hcm.cell ((Ext.drew v3).cell c2)
                 clear hi hkp hcm))
            go_wp2_with fail
            go_roundw
            case rel => exact ⟨k + 1, putM M key ls, by omega, by omega, by go_num, HG4.out, by have := len_put M key ls; omega⟩
            case measure => simp [intOf]; omega
      · have hk42 : 40 ≤ k := by omega
        go_wp2_with fail
        go_ret
        exact ⟨x, L, M, rfl, HG.out, by omega⟩
    · go_wp2_with fail
      go_ret
      exact ⟨x, L, M, rfl, HG.out, by omega⟩
end Go.Proofs.Ytebcjpapmjebgaa
