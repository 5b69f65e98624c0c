/- The document's index: Key, Right. -/
import Derived.Test.YtccjbmmhdbainaaIdxP
import Derived.Deep.CutRange
import Derived.Deep.CutBlock
import Derived.Deep.RegionHeld3
namespace Go.Proofs.Ytccjbmmhdbainaa
open Go.RowKit Sets
set_option linter.unusedVariables false
set_option maxRecDepth 100000
set_option linter.unusedSectionVars false
set_option linter.unusedSimpArgs false

section
variable {α : Type} {f : α → ByteArray} {s : ByteArray}
theorem parts_at {L l1 l2 : List α} (h : l1 ++ l2 = L) : L.take l1.length = l1 ∧ L.drop l1.length = l2 := by
  subst h
  simp
theorem drop_head {p : α → Bool} : ∀ {l : List α} {x : α} {t : List α}, l.dropWhile p = x :: t → p x = false
  | [], x, t, h => by simp at h
  | a :: l, x, t, h => by
    cases hc : p a with
    | true =>
      rw [List.dropWhile_cons_of_pos hc] at h
      exact drop_head h
    | false =>
      rw [List.dropWhile_cons_of_neg (by simp [hc])] at h
      injection h with h _
      rw [← h, hc]
theorem while_len (L : List α) (p : α → Bool) : (L.takeWhile p).length ≤ L.length := (List.takeWhile_sublist _).length_le
theorem while_next {L : List α} {k : Nat} {q : α} (hk : k ≤ (L.takeWhile fun p => ltB (f p) s).length) (hq : L[k]? = some q) :
    (ltB (f q) s = true → k + 1 ≤ (L.takeWhile fun p => ltB (f p) s).length) ∧ (ltB (f q) s = false → (L.takeWhile fun p => ltB (f p) s).length = k) := by
  have hsp := List.takeWhile_append_dropWhile (p := fun p => ltB (f p) s) (l := L)
  constructor
  · intro ha
    by_cases he : k = (L.takeWhile fun p => ltB (f p) s).length
    · exfalso
      rw [← hsp, List.getElem?_append_right (by omega), ← he, Nat.sub_self] at hq
      cases hd : L.dropWhile (fun p => ltB (f p) s) with
      | nil => rw [hd] at hq; simp at hq
      | cons y t =>
        rw [hd] at hq
        simp at hq
        have := drop_head hd
        rw [hq, ha] at this
        simp at this
    · omega
  · intro ha
    by_cases he : k = (L.takeWhile fun p => ltB (f p) s).length
    · exact he.symm
    · exfalso
      have hlt : k < (L.takeWhile fun p => ltB (f p) s).length := by omega
      rw [← hsp, List.getElem?_append_left hlt] at hq
      have := take_lt _ (List.mem_of_getElem? hq)
      rw [ha] at this
      simp at this
theorem insBy_parts {L : List α} {e : α} {k : Nat} (h : (L.takeWhile fun p => ltB (f p) (f e)).length = k) : insBy f L e = (L.take k ++ [e]) ++ L.drop k := by
  obtain ⟨h1, h2⟩ := parts_at (List.takeWhile_append_dropWhile (p := fun p => ltB (f p) (f e)) (l := L))
  rw [h] at h1 h2
  rw [h1, h2]
  simp [insBy]
theorem flat_drop {g : α → List Value} {k : Nat} (hf : ∀ x, (g x).length = k) (xs : List α) (n : Nat) (h : n ≤ xs.length) : (xs.flatMap g).drop (n * k) = (xs.drop n).flatMap g := by
  have e : xs.flatMap g = (xs.take n).flatMap g ++ (xs.drop n).flatMap g := by rw [← List.flatMap_append, List.take_append_drop]
  have hl : ((xs.take n).flatMap g).length = n * k := by rw [flat_length hf, List.length_take, Nat.min_eq_left h]
  rw [e, ← hl, List.drop_left]
end
theorem rkey_any (s : ByteArray) (w : World) (hs : s.size ≤ 9223372036854775807) : Calls Try.prog 53 #[.string s] w fun e w' => e = .returned (.bool (keyI s)) ∧ w = w' := by
  by_cases h1 : 1 ≤ s.size
  · have hI : (1 : Int) ≤ (s.size : Int) := by omega
    by_cases h2 : s.size ≤ 64
    · have hJ : (s.size : Int) ≤ 64 := by omega
      go_enter Try.func53, Try.ntmps53
      go_wp2_with fail
      go_ret
      exact ⟨by simp [keyI, h1, h2], rfl⟩
    · have hJ : (64 : Int) < (s.size : Int) := by omega
      go_enter Try.func53, Try.ntmps53
      go_wp2_with fail
      go_ret
      exact ⟨by simp [keyI, h1, h2]; try omega, rfl⟩
  · have hI : (s.size : Int) < 1 := by omega
    go_enter Try.func53, Try.ntmps53
    go_wp2_with fail
    go_ret
    exact ⟨by simp [keyI, h1], rfl⟩
set_option maxRecDepth 100000 in
set_option maxHeartbeats 4000000 in
theorem lright_any (v : Value) (l : List Lab) (w : World) (h : Row labC w v l) (hok : ∀ y ∈ l, okL y) :
    Calls Try.prog 54 #[v] w fun e w' => e = .returned (.bool (rightI l)) ∧ Ext w w' := by
  obtain ⟨A, n, c, rfl, hn, hnc, hcm, hr⟩ := h
  have hc' : c ≤ 9223372036854775807 := by simpa [maxLen] using hcm
  have HR := Lib.hid hr
  have HN := Lib.hid hn
  have HOK := Lib.hid hok
  clear hr hn hcm hok
  go_enter Try.func54, Try.ntmps54
  go_wp2_with fail
  go_loopw [3] (fun i wr => ∃ k : Nat, k ≤ n ∧ i = .int .i64 (k : Int) ∧ Hid (goodI (l.take k) = true) ∧ Ext w wr) (fun i _ => n - (intOf i).toNat)
  case atStart => exact ⟨0, by omega, rfl, Lib.hid rfl, Ext.refl _⟩
  case round =>
    obtain ⟨i, hi, rfl, HG, hx⟩ := hrel
    have HX := Lib.hid hx
    clear hx
    by_cases hin : i < n
    · have hiI : (i : Int) < (n : Int) := by omega
      have hiJ : (0 : Int) ≤ (i : Int) := by omega
      obtain ⟨y, hy⟩ : ∃ y, l[i]? = some y := ⟨_, List.getElem?_eq_getElem (by have := HN.out; omega)⟩
      obtain ⟨ad, rfl⟩ : ∃ ad, A = some ad := row_some HR.out labC_len (by decide) (by have := HN.out; omega)
      obtain ⟨c0, c1⟩ := lab_cells (HR.out.ext HX.out) hy
      have HOY := Lib.hid (HOK.out y (List.mem_of_getElem? hy))
      have HS : Hid (goodI (l.take (i + 1)) = (keyI y.1 && keyI y.2 && !hasB (namesI (l.take i)) y.1)) := Lib.hid (by rw [take_snoc hy, good_snoc, HG.out, Bool.true_and])
      have HFF : Hid ((keyI y.1 && keyI y.2 && !hasB (namesI (l.take i)) y.1) = false → rightI l = false) := Lib.hid (fun e => right_false (i + 1) (by rw [HS.out, e]))
      obtain ⟨y1, y2⟩ := y
      dsimp only at c0 c1
      have HY := Lib.hid hy
      clear hy
      cases hk1 : keyI y1 with
      | false =>
        have HF := Lib.hid (HFF.out (by rw [hk1]; rfl))
        go_wp2_with fail
        refine (rkey_any y1 _ HOY.out.1).mono ?_
        rintro e _ ⟨rfl, rfl⟩
        rw [hk1]
        go_wp2_with fail
        go_ret
        exact ⟨ret_bool HF.out.symm, HX.out⟩
      | true =>
        cases hk2 : keyI y2 with
        | false =>
          have HF := Lib.hid (HFF.out (by rw [hk1, hk2]; rfl))
          go_wp2_with fail
          refine (rkey_any y1 _ HOY.out.1).mono ?_
          rintro e _ ⟨rfl, rfl⟩
          rw [hk1]
          go_wp2_with fail
          refine (rkey_any y2 _ HOY.out.2).mono ?_
          rintro e _ ⟨rfl, rfl⟩
          rw [hk2]
          go_wp2_with fail
          go_ret
          exact ⟨ret_bool HF.out.symm, HX.out⟩
        | true =>
          have K1 := Lib.hid hk1
          have K2 := Lib.hid hk2
          have HS2 : Hid (hasB (namesI (l.take i)) y1 = false → goodI (l.take (i + 1)) = true) := Lib.hid (fun e => by rw [HS.out, hk1, hk2, e]; rfl)
          have HF2 : Hid (hasB (namesI (l.take i)) y1 = true → rightI l = false) := Lib.hid (fun e => HFF.out (by rw [hk1, hk2, e]; rfl))
          clear hk1 hk2 HS HFF
          go_wp2_with fail
          refine (rkey_any y1 _ HOY.out.1).mono ?_
          rintro e _ ⟨rfl, rfl⟩
          rw [K1.out]
          go_wp2_with fail
          refine (rkey_any y2 _ HOY.out.2).mono ?_
          rintro e _ ⟨rfl, rfl⟩
          rw [K2.out]
          clear c0 c1
          go_wp2_with fail
          go_loopw [4] (fun j wq => ∃ k : Nat, k ≤ i ∧ j = .int .i64 (k : Int) ∧ Hid (hasB (namesI (l.take k)) y1 = false) ∧ Ext w wq) (fun j _ => i - (intOf j).toNat)
          case atStart => exact ⟨0, by omega, rfl, Lib.hid rfl, HX.out⟩
          case round =>
            obtain ⟨k, hk, rfl, HH, hx⟩ := hrel
            have HX2 := Lib.hid hx
            clear hx
            by_cases hkn : k < i
            · have hkI : (k : Int) < (i : Int) := by omega
              have hkJ : (0 : Int) ≤ (k : Int) := by omega
              have hkK : (k : Int) < (n : Int) := by omega
              obtain ⟨z, hz⟩ : ∃ z, l[k]? = some z := ⟨_, List.getElem?_eq_getElem (by have := HN.out; omega)⟩
              obtain ⟨d0, d1⟩ := lab_cells (HR.out.ext HX2.out) hz
              obtain ⟨c0, c1⟩ := lab_cells (HR.out.ext HX2.out) HY.out
              have HZ := Lib.hid (hasN_snoc (n := y1) hz)
              obtain ⟨z1, z2⟩ := z
              dsimp only at c0 c1 d0 d1
              by_cases e1 : z1 = y1
              · subst e1
                have HF : Hid (rightI l = false) := Lib.hid (HF2.out (by
                  rw [hasB_iff]
                  exact List.mem_map.2 ⟨(z1, z2), List.mem_of_getElem? (l := l.take i) (i := k) (by rw [List.getElem?_take_of_lt hkn]; exact hz), rfl⟩))
                clear hz
                go_wp2_with fail
                go_quiet (fail)
                go_wp2_with fail
                go_ret
                exact ⟨ret_bool HF.out.symm, HX2.out.trans (Ext.drewN _ _)⟩
              · have e1' : (z1.toList == y1.toList) = false := by rw [eq_dec]; exact decide_eq_false e1
                have HZ2 : Hid (hasB (namesI (l.take (k + 1))) y1 = false) := Lib.hid (by rw [HZ.out, HH.out, decide_eq_false e1]; rfl)
                clear hz e1
                go_wp2_with fail
                go_quiet (fail)
                go_wp2_with fail
                go_roundw
                case rel => exact ⟨k + 1, by omega, by go_num, HZ2, HX2.out.trans (Ext.drewN _ _)⟩
                case measure => simp [intOf]; omega
            · obtain rfl : k = i := by omega
              have HG2 := Lib.hid (HS2.out HH.out)
              go_wp2_with fail
              go_roundw
              case rel => exact ⟨k + 1, by omega, by go_num, HG2, HX2.out⟩
              case measure => simp [intOf]; omega
    · obtain rfl : i = n := by omega
      by_cases h8 : i ≤ 8
      · have h8I : (i : Int) ≤ 8 := by omega
        have HF : Hid (rightI l = true) := Lib.hid (by
          have := HG.out
          rw [List.take_of_length_le (by rw [HN.out]; exact Nat.le_refl _)] at this
          unfold rightI
          rw [this, HN.out, decide_eq_true h8]
          rfl)
        go_wp2_with fail
        go_ret
        exact ⟨by rw [HF.out]; rfl, HX.out⟩
      · have h8I : decide ((i : Int) ≤ 8) = false := decide_eq_false (by omega)
        have HF : Hid (rightI l = false) := Lib.hid (by
          unfold rightI
          rw [HN.out, decide_eq_false h8, Bool.and_false])
        go_wp2_with fail
        go_ret
        exact ⟨by rw [HF.out]; rfl, HX.out⟩
end Go.Proofs.Ytccjbmmhdbainaa
