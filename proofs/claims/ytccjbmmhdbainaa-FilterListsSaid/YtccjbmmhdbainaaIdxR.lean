/- Package index: Right walked. -/
import Derived.Test.YtccjbmmhdbainaaIdxU
namespace Go.Proofs.Ytccjbmmhdbainaa
open Go.RowKit Sets
set_option linter.unusedVariables false
set_option maxRecDepth 100000
set_option linter.unusedSectionVars false
set_option linter.unusedSimpArgs false

def namesI (l : List Lab) : List ByteArray := l.map fun y => y.1
theorem names_app (l m : List Lab) : namesI (l ++ m) = namesI l ++ namesI m := List.map_append
theorem names_take (l : List Lab) (k : Nat) : namesI (l.take k) = (namesI l).take k := List.map_take
theorem names_len (l : List Lab) : (namesI l).length = l.length := List.length_map _
def goodI (l : List Lab) : Bool := (l.all fun y => keyI y.1 && keyI y.2) && decide ((namesI l).Nodup)
def rightI (l : List Lab) : Bool := goodI l && decide (l.length ≤ 8)
theorem good_snoc (l : List Lab) (y : Lab) : goodI (l ++ [y]) = (goodI l && (keyI y.1 && keyI y.2 && !hasB (namesI l) y.1)) := by
  unfold goodI
  have hn : decide ((namesI (l ++ [y])).Nodup) = (decide ((namesI l).Nodup) && !hasB (namesI l) y.1) := by
    rw [Bool.eq_iff_iff, Bool.and_eq_true, decide_eq_true_eq, decide_eq_true_eq, Bool.not_eq_true', ← Bool.not_eq_true, hasB_iff, names_app, List.nodup_append]
    constructor
    · rintro ⟨h1, _, h3⟩
      exact ⟨h1, fun hm => h3 _ hm y.1 (by simp [namesI]) rfl⟩
    · rintro ⟨h1, h2⟩
      refine ⟨h1, by simp [namesI], fun a ha b hb => ?_⟩
      simp [namesI] at hb
      subst hb
      rintro rfl
      exact h2 ha
  rw [hn, List.all_append]
  simp only [List.all_cons, List.all_nil, Bool.and_true]
  cases (l.all fun y => keyI y.1 && keyI y.2) <;> cases decide ((namesI l).Nodup) <;> cases keyI y.1 <;> cases keyI y.2 <;> cases hasB (namesI l) y.1 <;> rfl
theorem good_take {l : List Lab} (k : Nat) (h : goodI l = true) : goodI (l.take k) = true := by
  unfold goodI at *
  rw [Bool.and_eq_true, decide_eq_true_eq] at *
  refine ⟨?_, ?_⟩
  · rw [List.all_eq_true] at *
    exact fun y hy => h.1 y (List.mem_of_mem_take hy)
  · rw [names_take]
    exact h.2.sublist (List.take_sublist _ _)
theorem right_false {l : List Lab} (k : Nat) (h : goodI (l.take k) = false) : rightI l = false := by
  unfold rightI
  cases hg : goodI l with
  | false => rfl
  | true => rw [good_take k hg] at h; cases h
theorem lab_cells {w : World} {ad : Addr} {l : List Lab} {k : Nat} {y : Lab} (h : Rd w (some ad) (l.flatMap labC)) (hx : l[k]? = some y) :
    w.cell? (ad.add (k * 2)) = some (.string y.1) ∧ w.cell? ⟨(ad.add (k * 2)).block, (ad.add (k * 2)).off + 1, none⟩ = some (.string y.2) :=
  ⟨row_cell labC_len h k 0 hx rfl, row_field labC_len h k 1 (by decide) hx rfl⟩
theorem norm_add (xs : List ByteArray) (x : ByteArray) : mk orK (norm xs) [x] = norm (xs ++ [x]) :=
  Sd.ext (sd_mk _ _ _) (sd_norm _) (fun z => by rw [mem_or, mem_norm, mem_norm, List.mem_append])
theorem take_snoc {α : Type} {l : List α} {k : Nat} {y : α} (h : l[k]? = some y) : l.take (k + 1) = l.take k ++ [y] := by
  rw [List.take_add_one, h]; rfl
set_option maxHeartbeats 2000000 in
theorem right_any (v : Value) (l : List Lab) (w : World) (h : Row labC w v l) (hok : ∀ y ∈ l, okL y) (hlen : l.length ≤ 100000) :
    Calls Try.prog 47 #[v] w fun e w' => e = .returned (.bool (rightI l)) ∧ Ext w w' := by
  obtain ⟨A, n, c, rfl, hn, hnc, hcm, hr⟩ := h
  have hc' : c ≤ 9223372036854775807 := by simpa [maxLen] using hcm
  have HR := Lib.hid hr
  have HN := Lib.hid hn
  have HOK := Lib.hid hok
  have hn1 : n ≤ 100000 := by rw [← hn]; exact hlen
  clear hr hn hcm hok
  go_enter Try.func47, Try.ntmps47
  go_wp2_with fail
  go_loopw [3, 8] (fun s i wr => ∃ k : Nat, k ≤ n ∧ i = .int .i64 (k : Int) ∧ Txt wr s (norm (namesI (l.take k))) ∧ Hid (goodI (l.take k) = true) ∧ Ext w wr) (fun _ i _ => n - (intOf i).toNat)
  case atStart => exact ⟨0, by omega, rfl, txt_nil w, Lib.hid rfl, Ext.refl _⟩
  case round =>
    obtain ⟨k, hk, rfl, ht, HG, hx⟩ := hrel
    have HT := Lib.hid ht
    have HX := Lib.hid hx
    clear ht hx
    by_cases hkn : k < n
    · have hkI : (k : Int) < (n : Int) := by omega
      have hkJ : (0 : Int) ≤ (k : Int) := by omega
      obtain ⟨y, hy⟩ : ∃ y, l[k]? = some y := ⟨_, List.getElem?_eq_getElem (by have := HN.out; omega)⟩
      obtain ⟨ad, rfl⟩ : ∃ ad, A = some ad := row_some HR.out labC_len (by decide) (by have := HN.out; omega)
      obtain ⟨c0, c1⟩ := lab_cells (HR.out.ext HX.out) hy
      have HY := Lib.hid hy
      have HOY := Lib.hid (HOK.out y (List.mem_of_getElem? hy))
      have hHas : hasB (norm (namesI (l.take k))) y.1 = hasB (namesI (l.take k)) y.1 := hasB_congr (mem_norm _ _)
      have HHAS := Lib.hid hHas
      have hnl : (norm (namesI (l.take k))).length + 1 ≤ 4294967296 := by
        have := length_norm_le (namesI (l.take k))
        rw [names_len, List.length_take] at this
        omega
      have HNL := Lib.hid hnl
      obtain ⟨y1, y2⟩ := y
      dsimp only at c0 c1
      have hxx := Ext.alloc wr (.cells #[.string y1, .string y2] 69)
      have HXX := Lib.hid (HX.out.trans hxx)
      have HTT := Lib.hid (HT.out.ext hxx)
      clear hy hHas hnl hxx
      cases hk1 : keyI y1 with
      | false =>
        go_wp2_with fail
        refine (key_any y1 _ HOY.out.1).mono ?_
        rintro e _ ⟨rfl, rfl⟩
        rw [hk1]
        have HF : Hid (rightI l = false) := Lib.hid (right_false (k + 1) (by rw [take_snoc HY.out, good_snoc]; simp [hk1]))
        go_wp2_with fail
        go_ret
        exact ⟨ret_bool HF.out.symm, HXX.out⟩
      | true =>
        cases hk2 : keyI y2 with
        | false =>
          go_wp2_with fail
          refine (key_any y1 _ HOY.out.1).mono ?_
          rintro e _ ⟨rfl, rfl⟩
          rw [hk1]
          go_wp2_with fail
          refine (key_any y2 _ HOY.out.2).mono ?_
          rintro e _ ⟨rfl, rfl⟩
          rw [hk2]
          have HF : Hid (rightI l = false) := Lib.hid (right_false (k + 1) (by rw [take_snoc HY.out, good_snoc]; simp [hk2]))
          go_wp2_with fail
          go_ret
          exact ⟨ret_bool HF.out.symm, HXX.out⟩
        | true =>
          have K1 := Lib.hid hk1
          have K2 := Lib.hid hk2
          clear hk1 hk2
          go_wp2_with fail
          refine (key_any y1 _ HOY.out.1).mono ?_
          rintro e _ ⟨rfl, rfl⟩
          rw [K1.out]
          go_wp2_with fail
          refine (key_any y2 _ HOY.out.2).mono ?_
          rintro e _ ⟨rfl, rfl⟩
          rw [K2.out]
          go_wp2_with fail
          refine (has_txt _ _ y1 _ HTT.out).mono ?_
          rintro e _ ⟨rfl, rfl⟩
          rw [HHAS.out]
          cases hm : hasB (namesI (l.take k)) y1 with
          | true =>
            have HF : Hid (rightI l = false) := Lib.hid (right_false (k + 1) (by rw [take_snoc HY.out, good_snoc]; simp [hm]))
            go_wp2_with fail
            go_ret
            exact ⟨ret_bool HF.out.symm, HXX.out⟩
          | false =>
            have HGN : Hid (goodI (l.take (k + 1)) = true) := Lib.hid (by
              rw [take_snoc HY.out, good_snoc, HG.out]
              simp only [K1.out, K2.out, hm]
              rfl)
            clear hm
            go_wp2_with fail
            refine (add_txt _ y1 _ _ HTT.out HNL.out).mono ?_
            rintro e w6 ⟨u, rfl, hu, hx6⟩
            rw [norm_add] at hu
            have HU : Hid (Txt w6 u (norm (namesI (l.take (k + 1))))) := Lib.hid (by rw [take_snoc HY.out, names_app]; exact hu)
            have HX6 := Lib.hid (HXX.out.trans hx6)
            clear hu hx6
            go_wp2_with fail
            go_roundw
            case rel => exact ⟨k + 1, by omega, by go_num, HU.out, HGN, HX6.out⟩
            case measure => simp [intOf]; omega
    · obtain rfl : k = n := by omega
      have HL : Hid (l.take k = l) := Lib.hid (List.take_of_length_le (by rw [HN.out]; exact Nat.le_refl _))
      have HRI : Hid (rightI l = decide ((k : Int) ≤ 8)) := Lib.hid (by
        have hg := HG.out
        rw [HL.out] at hg
        unfold rightI
        rw [hg, HN.out, Bool.true_and]
        exact decide_eq_decide.2 (by omega))
      go_wp2_with fail
      go_ret
      exact ⟨ret_bool HRI.out.symm, HX.out⟩
end Go.Proofs.Ytccjbmmhdbainaa
