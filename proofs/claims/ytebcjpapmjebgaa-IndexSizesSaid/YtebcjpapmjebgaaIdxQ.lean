/- IndexSizes walked. -/
import Derived.Test.YtebcjpapmjebgaaIdxP
namespace Go.Proofs.Ytebcjpapmjebgaa
open Go.RowKit Sets
set_option linter.unusedVariables false
set_option linter.unusedSectionVars false
set_option linter.unusedSimpArgs false

/-- How many keys the first j names have together. -/
def wsum (M : Mod) (S : List ByteArray) (j : Nat) : Nat := ((S.take j).map fun n => (withM M n).length).sum
theorem wsum_snoc {M : Mod} {S : List ByteArray} {j : Nat} {s : ByteArray} (hs : S[j]? = some s) : wsum M S (j + 1) = wsum M S j + (withM M s).length := by
  unfold wsum
  rw [take_snoc hs, List.map_append, List.sum_append]
  simp
theorem wsum_le (M : Mod) (S : List ByteArray) (j : Nat) : wsum M S j ≤ (S.map fun n => (withM M n).length).sum := by
  unfold wsum
  conv => rhs; rw [← List.take_append_drop j S, List.map_append, List.sum_append]
  omega
theorem wsum_all (M : Mod) (S : List ByteArray) : wsum M S S.length = (S.map fun n => (withM M n).length).sum := by
  unfold wsum
  rw [List.take_length]
set_option maxRecDepth 100000 in
set_option maxHeartbeats 4000000 in
theorem indexSizes_any (v : Value) (xs : List IOp) (w : World) (h : Row opC w v xs) (hok : ∀ o ∈ xs, IOpOk w o) :
    Calls Try.prog 8 #[v] w fun e w' => e = .returned (.bool true) ∧ Ext w w' := by
  have HROW := Lib.hid h
  have HOK := Lib.hid hok
  obtain ⟨A, n, c, rfl, _⟩ := h
  clear hok
  go_enter Try.func8, Try.ntmps8
  go_wp2_with fail
  refine (build_any _ xs w HROW.out HOK.out).mono ?_
  rintro e v1 ⟨x, L, M, rfl, hg, hml⟩
  have HG := Lib.hid hg
  have HM := Lib.hid hg.at_.good
  clear hg HROW HOK
  go_wp2_with fail
  refine (keys_list HG.out.at_ (by omega)).mono ?_
  rintro e v2 ⟨_, rfl, ⟨A2, m, c2, rfl, hn2, hnc2, hcm2, hr2⟩, hx⟩
  obtain rfl : m = M.length := by rw [← hn2]; exact len_keys
  have HG2 := Lib.hid (HG.out.later hx)
  have HR2 := Lib.hid hr2
  clear HG hx hn2 hr2
  go_wp2_with fail
  go_loopw [4, 6] (fun s i wr => ∃ (k : Nat) (S : List ByteArray), k ≤ M.length ∧ i = .int .i64 (k : Int) ∧ Txt wr s S ∧ Hid (Sd S) ∧ Hid (∀ x, x ∈ S ↔ inM (M.take k) x) ∧ S.length ≤ 8 * k ∧ Ext v2 wr) (fun _ i _ => M.length - (intOf i).toNat)
  case atStart => exact ⟨0, [], by omega, rfl, txt_nil _, Lib.hid Sd.nil, Lib.hid (fun x => ⟨fun h => by simp at h, fun h => absurd h (inM_nil x)⟩), by simp, Ext.refl _⟩
  case round =>
    obtain ⟨k, S, hk, rfl, ht, HSD, HME, hsl, hx⟩ := hrel
    have HT := Lib.hid ht
    have HX := Lib.hid hx
    clear ht hx
    by_cases hkn : k < M.length
    · have hkI : (k : Int) < (M.length : Int) := by omega
      obtain ⟨p, hp⟩ : ∃ p, M[k]? = some p := ⟨_, List.getElem?_eq_getElem hkn⟩
      obtain ⟨ad, rfl, c0⟩ := txt_cell (HR2.out.ext HX.out) (keys_get hp)
      have HP := Lib.hid hp
      have HLK := Lib.hid (lk_at HM.out hp)
      have HEN := Lib.hid (HM.out.ent p (List.mem_of_getElem? hp))
      have HOL := Lib.hid (fun y (hy : y ∈ p.2) => ent_okL HM.out (List.mem_of_getElem? hp) hy)
      obtain ⟨p1, p2⟩ := p
      dsimp only at c0
      clear hp
      go_wp2_with fail
      clear c0
      refine (labels_list (HG2.out.at_.ext HX.out) p1 (key_ok HEN.out.1)).mono ?_
      rintro e v3 ⟨_, rfl, hrow, hx⟩
      rw [HLK.out] at hrow
      obtain ⟨A3, m3, c3, rfl, hn3, hnc3, hcm3, hr3⟩ := hrow
      have HR3 := Lib.hid hr3
      have HN3 := Lib.hid hn3
      have hm8 : m3 ≤ 8 := by
        have := (right_ok HEN.out.2.1).2
        omega
      have HX3 := Lib.hid (HX.out.trans hx)
      have HT3 := Lib.hid (HT.out.ext hx)
      clear hr3 hn3 hx HX HT
      go_wp2_with fail
      go_loopw [4, 8] (fun s i wq => ∃ (j : Nat) (S : List ByteArray), j ≤ m3 ∧ i = .int .i64 (j : Int) ∧ Txt wq s S ∧ Hid (Sd S) ∧ Hid (∀ x, x ∈ S ↔ (inM (M.take k) x ∨ x ∈ namesI (p2.take j))) ∧ S.length ≤ 8 * k + j ∧ Ext v3 wq) (fun _ i _ => m3 - (intOf i).toNat)
      case atStart => exact ⟨0, S, by omega, rfl, HT3.out, HSD, Lib.hid (fun x => by rw [HME.out]; simp [namesI]), by omega, Ext.refl _⟩
      case round =>
        obtain ⟨j, S2, hj, rfl, ht, HSD2, HME2, hsl2, hx⟩ := hrel
        have HT4 := Lib.hid ht
        have HX4 := Lib.hid hx
        clear ht hx
        by_cases hjn : j < m3
        · have hjI : (j : Int) < (m3 : Int) := by omega
          obtain ⟨y, hy⟩ : ∃ y, p2[j]? = some y := ⟨_, List.getElem?_eq_getElem (by have := HN3.out; omega)⟩
          obtain ⟨ad3, rfl⟩ : ∃ ad, A3 = some ad := row_some HR3.out labC_len (by decide) (by have := HN3.out; omega)
          obtain ⟨r0, _⟩ := lab_cells (HR3.out.ext HX4.out) hy
          have HY := Lib.hid hy
          have HOY := Lib.hid (HOL.out y (List.mem_of_getElem? hy))
          obtain ⟨y1, y2⟩ := y
          dsimp only at r0
          clear hy
          have HFIT : Hid (Fit (y1 :: S2)) := Lib.hid (fun s hs => by
            rcases List.mem_cons.1 hs with rfl | hs
            · exact HOY.out.1
            · rcases (HME2.out s).1 hs with hs | hs
              · obtain ⟨q, hq, hq2⟩ := hs
                exact inM_ok HM.out ⟨q, List.mem_of_mem_take hq, hq2⟩
              · obtain ⟨z, hz, rfl⟩ := List.mem_map.1 hs
                exact (HOL.out z (List.mem_of_mem_take hz)).1)
          go_wp2_with fail
          clear r0
          refine (radd_txt _ S2 y1 _ HT4.out HFIT.out (by omega)).mono ?_
          rintro e v5 ⟨s5, rfl, ht5, hx5⟩
          have HT5 := Lib.hid ht5
          have HX5 := Lib.hid (HX4.out.trans hx5)
          clear ht5 hx5
          go_wp2_with fail
          go_roundw
          case rel => exact ⟨j + 1, addL S2 y1, by omega, by go_num, HT5.out, Lib.hid (sd_addL y1 HSD2.out), Lib.hid (fun z => by
            rw [mem_addL, HME2.out, names_snoc HY.out]
            constructor
            · rintro (h | h | h)
              · exact .inr (.inr h)
              · exact .inl h
              · exact .inr (.inl h)
            · rintro (h | h | h)
              · exact .inr (.inl h)
              · exact .inr (.inr h)
              · exact .inl h), by have := len_addL S2 y1; omega, HX5.out⟩
          case measure => simp [intOf]; omega
        · obtain rfl : j = m3 := by omega
          have HL : Hid (p2.take j = p2) := Lib.hid (List.take_of_length_le (by rw [HN3.out]; exact Nat.le_refl _))
          have HMN : Hid (∀ x, x ∈ S2 ↔ inM (M.take (k + 1)) x) := Lib.hid (fun x => by rw [HME2.out, HL.out, inM_take HP.out])
          have HX6 := Lib.hid (HX3.out.trans HX4.out)
          clear HX3 HX4
          go_wp2_with fail
          go_roundw
          case rel => exact ⟨k + 1, S2, by omega, by go_num, HT4.out, HSD2, HMN, by omega, HX6.out⟩
          case measure => simp [intOf]; omega
    · obtain rfl : k = M.length := by omega
      have HSUM : Hid ((S.map fun n => (withM M n).length).sum = sizeM M) := Lib.hid (sizes_law HM.out HSD.out (fun x => by rw [HME.out, List.take_length]))
      have hsz := size_le HM.out
      obtain ⟨A5, m5, c5, rfl, hn5, hnc5, hcm5, hr5⟩ := HT.out
      have HR5 := Lib.hid hr5
      have HN5 := Lib.hid hn5
      have hm5 : m5 ≤ 8 * M.length := by omega
      clear hr5 hn5 HT
      go_wp2_with fail
      go_loopw [9, 10] (fun s i wq => ∃ (j : Nat), j ≤ m5 ∧ i = .int .i64 (j : Int) ∧ s = .int .i64 (wsum M S j : Int) ∧ Ext wr wq) (fun _ i _ => m5 - (intOf i).toNat)
      case atStart => exact ⟨0, by omega, rfl, rfl, Ext.refl _⟩
      case round =>
        obtain ⟨j, hj, rfl, rfl, hx⟩ := hrel
        have HX5 := Lib.hid hx
        clear hx
        by_cases hjn : j < m5
        · have hjI : (j : Int) < (m5 : Int) := by omega
          obtain ⟨s, hs⟩ : ∃ s, S[j]? = some s := ⟨_, List.getElem?_eq_getElem (by have := HN5.out; omega)⟩
          obtain ⟨ad5, rfl, c5⟩ := txt_cell (HR5.out.ext HX5.out) hs
          have HOS : Hid (okS s) := Lib.hid (inM_ok HM.out (by rw [← List.take_length (l := M)]; exact (HME.out s).1 (List.mem_of_getElem? hs)))
          have hsum := wsum_snoc (M := M) hs
          have hle : wsum M S (j + 1) ≤ sizeM M := by rw [← HSUM.out]; exact wsum_le M S (j + 1)
          clear hs
          go_wp2_with fail
          clear c5
          refine (with_list (HG2.out.at_.ext (HX.out.trans HX5.out)) s HOS.out (by omega)).mono ?_
          rintro e v6 ⟨_, rfl, ⟨A6, m6, c6, rfl, hn6, hnc6, hcm6, hr6⟩, hx6⟩
          have HX6 := Lib.hid (HX5.out.trans hx6)
          rw [hn6] at hsum
          clear hx6 hr6 hn6
          go_wp2_with fail
          go_roundw
          case rel => exact ⟨j + 1, by omega, by go_num, by go_num, HX6.out⟩
          case measure => simp [intOf]; omega
        · obtain rfl : j = m5 := by omega
          have HL : Hid (wsum M S j = sizeM M) := Lib.hid (by rw [← HN5.out, wsum_all]; exact HSUM.out)
          have HG5 := Lib.hid (HG2.out.later (HX.out.trans HX5.out))
          rw [HL.out]
          go_wp2_with fail
          refine (size_list HG5.out.at_ (by omega)).mono ?_
          rintro e v7 ⟨rfl, hx7⟩
          go_wp2_with fail
          refine (known_any _).mono ?_
          rintro e v8 ⟨rfl, hx8⟩
          go_wp2_with fail
          go_ret
          exact ⟨rfl, (HG5.out.ext.trans hx7).trans hx8⟩
end Go.Proofs.Ytebcjpapmjebgaa
