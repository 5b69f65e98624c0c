/- The statement DeltaCuts, walked. -/
import Derived.Test.YtpdebandcmhbcaaDelK
import Derived.Test.YtpdebandcmhbcaaDelA
namespace Go.Proofs.Ytpdebandcmhbcaa
open Go.RowKit Bit
set_option linter.unusedVariables false

def u64C (u : Nat) : List Value := [.int .u64 (u : Int)]
theorem u64C_len (u : Nat) : (u64C u).length = 1 := rfl
def codesB (l : List Nat) : List Bool := l.flatMap codeB
theorem codes_snoc {l : List Nat} {k u : Nat} (h : l[k]? = some u) : codesB (l.take (k + 1)) = codesB (l.take k) ++ codeB u := by
  rw [List.take_add_one, h]
  simp [codesB]
theorem codes_len (l : List Nat) : (codesB l).length ≤ 68 * l.length := by
  induction l with
  | nil => simp [codesB]
  | cons a t ih =>
    have h1 := size_le a
    have : codesB (a :: t) = codeB a ++ codesB t := rfl
    rw [this, List.length_append, codeB_len, List.length_cons]
    omega
theorem codes_split {l : List Nat} {j m u : Nat} (h : l[j]? = some u) (hj : j < m) : ∃ t, codesB (l.take m) = codesB (l.take j) ++ (codeB u ++ t) := by
  refine ⟨codesB ((l.take m).drop (j + 1)), ?_⟩
  have e : l.take m = l.take j ++ u :: (l.take m).drop (j + 1) := by
    have h2 : (l.take m)[j]? = some u := by rw [List.getElem?_take, if_pos hj, h]
    obtain ⟨hlt, he⟩ := List.getElem?_eq_some_iff.1 h2
    have h3 := List.drop_eq_getElem_cons hlt
    rw [he] at h3
    rw [← h3]
    have h4 := (List.take_append_drop j (l.take m)).symm
    rwa [List.take_take, Nat.min_eq_left (by omega)] at h4
  conv => lhs; rw [e]
  simp [codesB]
theorem u64_cell {w : World} {ad : Addr} {l : List Nat} {k u : Nat} (h : Rd w (some ad) (l.flatMap u64C)) (hx : l[k]? = some u) : w.cell? (ad.add k) = some (.int .u64 (u : Int)) := by
  have h2 : w.cell? (ad.add (k * 1)) = some (.int .u64 (u : Int)) := row_cell u64C_len h k 0 hx rfl
  rwa [Nat.mul_one] at h2
/-- What a reader reads next. -/
theorem read_codes {l : List Nat} {s : ByteArray} {j m u : Nat} (hs : Packed (codesB (l.take m)) s.toList) (h : l[j]? = some u) (hj : j < m) (hu : u < 18446744073709551616) :
    getB (bitsAt s (codesB (l.take j)).length ((codesB (l.take m)).length - (codesB (l.take j)).length)) = (u, (codeB u).length, 0) ∧ (codesB (l.take (j + 1))).length = (codesB (l.take j)).length + (codeB u).length ∧ (codesB (l.take (j + 1))).length ≤ (codesB (l.take m)).length := by
  obtain ⟨t, ht⟩ := codes_split h hj
  have hlen : (codesB (l.take m)).length = (codesB (l.take j)).length + ((codeB u).length + t.length) := by rw [ht]; simp
  refine ⟨?_, ?_, ?_⟩
  · rw [bitsAt_packed hs _ _ (by omega), List.take_of_length_le (by rw [List.length_drop]; exact Nat.le_refl _), ht, List.drop_left, get_code u hu t, codeB_len]
  · rw [codes_snoc h, List.length_append]
  · rw [codes_snoc h, List.length_append]; omega
theorem read_end (s : ByteArray) (m : Nat) : getB (bitsAt s m (m - m)) = (0, 0, 3) := by
  rw [Nat.sub_self]; rfl
set_option maxRecDepth 100000 in
set_option maxHeartbeats 4000000 in
theorem deltaCuts_any (v : Value) (l : List Nat) (w : World) (h : Row u64C w v l) (hok : ∀ u ∈ l, u < 18446744073709551616) :
    Calls Try.prog 7 #[v] w fun e w' => e = .returned (.bool true) ∧ Ext w w' := by
  obtain ⟨A, n, c, rfl, hn, hnc, hc, hr⟩ := h
  have hc' : c ≤ 9223372036854775807 := by simpa [maxLen] using hc
  have HR := Lib.hid hr
  have HN := Lib.hid hn
  have HOK := Lib.hid hok
  clear hr hn hok hc
  go_enter Try.func7, Try.ntmps7
  go_wp2_with fail
  have HW0 := Lib.hid (Wr.new w w.heap.size (Nat.le_refl _))
  have HC0 := Lib.hid (Chg.of_ext (B := w.heap.size) (S := [28, 5]) (Ext.alloc w (.cells #[.slice none 0 0, .int .i64 0] 28)))
  generalize w.alloc (.cells #[.slice none 0 0, .int .i64 0] 28) = v0 at HW0 HC0 ⊢
  go_loopw [4, 5] (fun sz i wr => ∃ k : Nat, k ≤ n ∧ k ≤ 40 ∧ i = .int .i64 (k : Int) ∧ sz = .int .i64 ((codesB (l.take k)).length : Int) ∧ Wr w.heap.size wr w.heap.size (codesB (l.take k)) ∧ Chg w.heap.size [28, 5] w wr) (fun _ i _ => n - (intOf i).toNat)
  case atStart => exact ⟨0, by omega, by omega, rfl, rfl, HW0.out, HC0.out⟩
  case round =>
    obtain ⟨k, hk, hk40, rfl, rfl, hw, hc⟩ := hrel
    have HW := Lib.hid hw
    have HC := Lib.hid hc
    have hl := codes_len (l.take k)
    have hl2 : (codesB (l.take k)).length ≤ 2720 := by rw [List.length_take] at hl; omega
    clear hw hc hl
    by_cases hkn : k < n
    · by_cases hk4 : k < 40
      · obtain ⟨ad, rfl⟩ : ∃ ad, A = some ad := row_some HR.out u64C_len (by decide) (by have := HN.out; omega)
        obtain ⟨u, hx⟩ : ∃ u, l[k]? = some u := ⟨_, List.getElem?_eq_getElem (by have := HN.out; omega)⟩
        have c0 := u64_cell (HR.out.ext (HC.out.to_ext (Nat.le_refl _))) hx
        have HU := Lib.hid (HOK.out u (List.mem_of_getElem? hx))
        have HSN := Lib.hid (codes_snoc hx)
        have HX := Lib.hid hx
        have hsz : ((codesB (l.take k)).length : Int) + (sizeN u : Int) = ((codesB (l.take (k + 1))).length : Int) := by rw [HSN.out, List.length_append, codeB_len]; omega
        clear hx
        go_wp2_with fail
        refine (dput_any w.heap.size w.heap.size _ u wr HW.out HU.out (by omega) HC.out.size).mono ?_
        rintro e v1 ⟨rfl, hw1, hc1⟩
        have HW1 := Lib.hid hw1
        have HC1 := Lib.hid (HC.out.trans hc1)
        clear hw1 hc1 c0
        have c1 := u64_cell (HR.out.ext (HC1.out.to_ext (Nat.le_refl _))) HX.out
        go_wp2_with fail
        refine (size_any u v1 HU.out).mono ?_
        rintro e v2 ⟨rfl, hx⟩
        have HW2 := Lib.hid (HW1.out.ext hx)
        have HC2 := Lib.hid (HC1.out.then hx)
        clear hx c1
        have hl3 : sizeN u ≤ 68 := size_le u
        go_wp2_with fail
        go_roundw
        case rel => exact ⟨k + 1, by omega, by omega, by go_num, by first | (rw [← hsz]; go_num) | (congr 1), by rw [HSN.out]; exact HW2.out, HC2.out⟩
        case measure => simp [intOf]; omega
      · have hk42 : 40 ≤ k := by omega
        have hend : k = n ∨ k = 40 := by omega
        have HEND := Lib.hid hend
        clear hend
        go_wp2_with fail
        refine (wbytes_any _ _ _ wr HW.out (by omega)).mono ?_
        rintro e _ ⟨s, rfl, hs, rfl⟩
        have HS := Lib.hid hs
        clear hs
        go_wp2_with fail
        refine (len_any _ _ _ wr HW.out).mono ?_
        rintro e _ ⟨rfl, rfl⟩
        have hsz8 : (codesB (l.take k)).length ≤ 8 * s.size := by have := HS.out.1; rw [size_list] at this; omega
        have hsz4 : s.size ≤ 4294967296 := by have := HS.out.1; rw [size_list] at this; omega
        go_wp2_with fail
        refine (read_ok s _ wr hsz8 hsz4).mono ?_
        rintro e v3 ⟨rfl, hr3, hx3⟩
        obtain ⟨g, hg⟩ : ∃ g, g = wr.heap.size := ⟨_, rfl⟩
        rw [← hg] at hr3 ⊢
        have hBg : w.heap.size ≤ g := by rw [hg]; exact HC.out.size
        have HR3 := Lib.hid hr3
        have HX3 := Lib.hid (((HC.out.to_ext (Nat.le_refl _))).trans hx3)
        have HW3 := Lib.hid (HW.out.ext hx3)
        clear hr3 hx3 hg
        go_wp2_with fail
        refine (len_any _ _ _ v3 HW3.out).mono ?_
        rintro e _ ⟨rfl, rfl⟩
        go_wp2_with fail
        go_loopw [8] (fun i wq => ∃ j : Nat, j ≤ k ∧ i = .int .i64 (j : Int) ∧ Rdr wq g s (codesB (l.take k)).length (codesB (l.take j)).length ∧ (codesB (l.take j)).length ≤ (codesB (l.take k)).length ∧ Chg w.heap.size [77] v3 wq) (fun i _ => k - (intOf i).toNat)
        case atStart => exact ⟨0, by omega, rfl, HR3.out, Nat.zero_le _, Chg.refl _ _ _⟩
        case round =>
          obtain ⟨j, hj, rfl, hr, hjl, hc⟩ := hrel
          have HRJ := Lib.hid hr
          have HCJ := Lib.hid hc
          clear hr hc
          by_cases hjk : j < k
          · have hjn : j < n := by omega
            have hj4 : j < 40 := by omega
            obtain ⟨ad, rfl⟩ : ∃ ad, A = some ad := row_some HR.out u64C_len (by decide) (by have := HN.out; omega)
            obtain ⟨u, hx⟩ : ∃ u, l[j]? = some u := ⟨_, List.getElem?_eq_getElem (by have := HN.out; omega)⟩
            have HU := Lib.hid (HOK.out u (List.mem_of_getElem? hx))
            have HGT := Lib.hid (read_codes HS.out hx hjk HU.out)
            have HXJ := Lib.hid hx
            clear hx
            go_wp2_with fail
            refine (dget_any w.heap.size g s _ _ wr HRJ.out hjl (by omega) hsz8 hsz4 hBg).mono ?_
            rintro e v4 ⟨u', m', y', rfl, hg4, hr4, hc4⟩
            rw [HGT.out.1] at hg4
            injection hg4 with e1 hg4; injection hg4 with e2 e3
            subst e1 e2 e3
            have HR4 := Lib.hid hr4
            have HC4 := Lib.hid (HCJ.out.trans hc4)
            clear hr4 hc4
            have c1 := u64_cell (HR.out.ext (ext_own HX3.out HC4.out)) HXJ.out
            go_wp2_with fail
            go_roundw
            case rel => exact ⟨j + 1, by omega, by go_num, by rw [HGT.out.2.1]; exact HR4.out, HGT.out.2.2, HC4.out⟩
            case measure => simp [intOf]; omega
          · obtain rfl : j = k := by omega
            clear hjk
            rcases HEND.out with he | he
            · have hnl : ¬ (j : Int) < (n : Int) := by omega
              have hnl2 : decide ((j : Int) < (n : Int)) = false := by rw [decide_eq_false_iff_not]; exact hnl
              clear he
              go_wp2_with fail
              refine (dget_any w.heap.size g s _ _ wr HRJ.out hjl (by omega) hsz8 hsz4 hBg).mono ?_
              rintro e v4 ⟨u', m', y', rfl, hg4, hr4, hc4⟩
              rw [read_end] at hg4
              injection hg4 with e1 hg4; injection hg4 with e2 e3
              subst e1 e2 e3
              have HR4 := Lib.hid hr4
              have HC4 := Lib.hid (HCJ.out.trans hc4)
              clear hr4 hc4
              go_wp2_with fail
              refine (dget_nil v4).mono ?_
              rintro e _ ⟨rfl, rfl⟩
              go_wp2_with fail
              refine (left_any g s _ _ v4 HR4.out (by omega) (by omega)).mono ?_
              rintro e v5 ⟨rfl, hx⟩
              replace hx := ext_drew hx
              have hz : (((codesB (l.take j)).length : Nat) : Int) - (((codesB (l.take j)).length + 0 : Nat) : Int) = 0 := by omega
              rw [hz]
              have HX5 := Lib.hid ((ext_own HX3.out HC4.out).trans hx)
              clear hx hz
              go_wp2_with fail
              refine (known_any v5).mono ?_
              rintro e v6 ⟨rfl, hx⟩
              go_wp2_with fail
              go_ret
              exact ⟨rfl, HX5.out.trans hx⟩
            · have hnl : ¬ (j : Int) < 40 := by omega
              have hnl2 : decide ((j : Int) < 40) = false := by rw [decide_eq_false_iff_not]; exact hnl
              clear he
              go_wp2_with fail
              refine (dget_any w.heap.size g s _ _ wr HRJ.out hjl (by omega) hsz8 hsz4 hBg).mono ?_
              rintro e v4 ⟨u', m', y', rfl, hg4, hr4, hc4⟩
              rw [read_end] at hg4
              injection hg4 with e1 hg4; injection hg4 with e2 e3
              subst e1 e2 e3
              have HR4 := Lib.hid hr4
              have HC4 := Lib.hid (HCJ.out.trans hc4)
              clear hr4 hc4
              go_wp2_with fail
              refine (dget_nil v4).mono ?_
              rintro e _ ⟨rfl, rfl⟩
              go_wp2_with fail
              refine (left_any g s _ _ v4 HR4.out (by omega) (by omega)).mono ?_
              rintro e v5 ⟨rfl, hx⟩
              replace hx := ext_drew hx
              have hz : (((codesB (l.take j)).length : Nat) : Int) - (((codesB (l.take j)).length + 0 : Nat) : Int) = 0 := by omega
              rw [hz]
              have HX5 := Lib.hid ((ext_own HX3.out HC4.out).trans hx)
              clear hx hz
              go_wp2_with fail
              refine (known_any v5).mono ?_
              rintro e v6 ⟨rfl, hx⟩
              go_wp2_with fail
              go_ret
              exact ⟨rfl, HX5.out.trans hx⟩
    · have hend : k = n ∨ k = 40 := by omega
      have HEND := Lib.hid hend
      clear hend
      go_wp2_with fail
      refine (wbytes_any _ _ _ wr HW.out (by omega)).mono ?_
      rintro e _ ⟨s, rfl, hs, rfl⟩
      have HS := Lib.hid hs
      clear hs
      go_wp2_with fail
      refine (len_any _ _ _ wr HW.out).mono ?_
      rintro e _ ⟨rfl, rfl⟩
      have hsz8 : (codesB (l.take k)).length ≤ 8 * s.size := by have := HS.out.1; rw [size_list] at this; omega
      have hsz4 : s.size ≤ 4294967296 := by have := HS.out.1; rw [size_list] at this; omega
      go_wp2_with fail
      refine (read_ok s _ wr hsz8 hsz4).mono ?_
      rintro e v3 ⟨rfl, hr3, hx3⟩
      obtain ⟨g, hg⟩ : ∃ g, g = wr.heap.size := ⟨_, rfl⟩
      rw [← hg] at hr3 ⊢
      have hBg : w.heap.size ≤ g := by rw [hg]; exact HC.out.size
      have HR3 := Lib.hid hr3
      have HX3 := Lib.hid (((HC.out.to_ext (Nat.le_refl _))).trans hx3)
      have HW3 := Lib.hid (HW.out.ext hx3)
      clear hr3 hx3 hg
      go_wp2_with fail
      refine (len_any _ _ _ v3 HW3.out).mono ?_
      rintro e _ ⟨rfl, rfl⟩
      go_wp2_with fail
      go_loopw [8] (fun i wq => ∃ j : Nat, j ≤ k ∧ i = .int .i64 (j : Int) ∧ Rdr wq g s (codesB (l.take k)).length (codesB (l.take j)).length ∧ (codesB (l.take j)).length ≤ (codesB (l.take k)).length ∧ Chg w.heap.size [77] v3 wq) (fun i _ => k - (intOf i).toNat)
      case atStart => exact ⟨0, by omega, rfl, HR3.out, Nat.zero_le _, Chg.refl _ _ _⟩
      case round =>
        obtain ⟨j, hj, rfl, hr, hjl, hc⟩ := hrel
        have HRJ := Lib.hid hr
        have HCJ := Lib.hid hc
        clear hr hc
        by_cases hjk : j < k
        · have hjn : j < n := by omega
          have hj4 : j < 40 := by omega
          obtain ⟨ad, rfl⟩ : ∃ ad, A = some ad := row_some HR.out u64C_len (by decide) (by have := HN.out; omega)
          obtain ⟨u, hx⟩ : ∃ u, l[j]? = some u := ⟨_, List.getElem?_eq_getElem (by have := HN.out; omega)⟩
          have HU := Lib.hid (HOK.out u (List.mem_of_getElem? hx))
          have HGT := Lib.hid (read_codes HS.out hx hjk HU.out)
          have HXJ := Lib.hid hx
          clear hx
          go_wp2_with fail
          refine (dget_any w.heap.size g s _ _ wr HRJ.out hjl (by omega) hsz8 hsz4 hBg).mono ?_
          rintro e v4 ⟨u', m', y', rfl, hg4, hr4, hc4⟩
          rw [HGT.out.1] at hg4
          injection hg4 with e1 hg4; injection hg4 with e2 e3
          subst e1 e2 e3
          have HR4 := Lib.hid hr4
          have HC4 := Lib.hid (HCJ.out.trans hc4)
          clear hr4 hc4
          have c1 := u64_cell (HR.out.ext (ext_own HX3.out HC4.out)) HXJ.out
          go_wp2_with fail
          go_roundw
          case rel => exact ⟨j + 1, by omega, by go_num, by rw [HGT.out.2.1]; exact HR4.out, HGT.out.2.2, HC4.out⟩
          case measure => simp [intOf]; omega
        · obtain rfl : j = k := by omega
          clear hjk
          rcases HEND.out with he | he
          · have hnl : ¬ (j : Int) < (n : Int) := by omega
            have hnl2 : decide ((j : Int) < (n : Int)) = false := by rw [decide_eq_false_iff_not]; exact hnl
            clear he
            go_wp2_with fail
            refine (dget_any w.heap.size g s _ _ wr HRJ.out hjl (by omega) hsz8 hsz4 hBg).mono ?_
            rintro e v4 ⟨u', m', y', rfl, hg4, hr4, hc4⟩
            rw [read_end] at hg4
            injection hg4 with e1 hg4; injection hg4 with e2 e3
            subst e1 e2 e3
            have HR4 := Lib.hid hr4
            have HC4 := Lib.hid (HCJ.out.trans hc4)
            clear hr4 hc4
            go_wp2_with fail
            refine (dget_nil v4).mono ?_
            rintro e _ ⟨rfl, rfl⟩
            go_wp2_with fail
            refine (left_any g s _ _ v4 HR4.out (by omega) (by omega)).mono ?_
            rintro e v5 ⟨rfl, hx⟩
            replace hx := ext_drew hx
            have hz : (((codesB (l.take j)).length : Nat) : Int) - (((codesB (l.take j)).length + 0 : Nat) : Int) = 0 := by omega
            rw [hz]
            have HX5 := Lib.hid ((ext_own HX3.out HC4.out).trans hx)
            clear hx hz
            go_wp2_with fail
            refine (known_any v5).mono ?_
            rintro e v6 ⟨rfl, hx⟩
            go_wp2_with fail
            go_ret
            exact ⟨rfl, HX5.out.trans hx⟩
          · have hnl : ¬ (j : Int) < 40 := by omega
            have hnl2 : decide ((j : Int) < 40) = false := by rw [decide_eq_false_iff_not]; exact hnl
            clear he
            go_wp2_with fail
            refine (dget_any w.heap.size g s _ _ wr HRJ.out hjl (by omega) hsz8 hsz4 hBg).mono ?_
            rintro e v4 ⟨u', m', y', rfl, hg4, hr4, hc4⟩
            rw [read_end] at hg4
            injection hg4 with e1 hg4; injection hg4 with e2 e3
            subst e1 e2 e3
            have HR4 := Lib.hid hr4
            have HC4 := Lib.hid (HCJ.out.trans hc4)
            clear hr4 hc4
            go_wp2_with fail
            refine (dget_nil v4).mono ?_
            rintro e _ ⟨rfl, rfl⟩
            go_wp2_with fail
            refine (left_any g s _ _ v4 HR4.out (by omega) (by omega)).mono ?_
            rintro e v5 ⟨rfl, hx⟩
            replace hx := ext_drew hx
            have hz : (((codesB (l.take j)).length : Nat) : Int) - (((codesB (l.take j)).length + 0 : Nat) : Int) = 0 := by omega
            rw [hz]
            have HX5 := Lib.hid ((ext_own HX3.out HC4.out).trans hx)
            clear hx hz
            go_wp2_with fail
            refine (known_any v5).mono ?_
            rintro e v6 ⟨rfl, hx⟩
            go_wp2_with fail
            go_ret
            exact ⟨rfl, HX5.out.trans hx⟩
end Go.Proofs.Ytpdebandcmhbcaa
