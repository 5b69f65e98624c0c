/- The document's index: Find. -/
import Derived.Test.YtebcjpapmjebgaaIxrC
namespace Go.Proofs.Ytebcjpapmjebgaa
open Go.RowKit Sets
set_option linter.unusedVariables false
set_option linter.unusedSectionVars false
set_option linter.unusedSimpArgs false

def hitL (n v : ByteArray) (any : Bool) (y : Lab) : Bool := decide (y.1 = n) && (any || decide (y.2 = v))
def fnd1 (hit : Lab → Bool) (q : Ent) (j : Nat) : List ByteArray := ((q.2.take j).filter hit).map fun _ => q.1
def fndM (hit : Lab → Bool) : Mod → List ByteArray
  | [] => []
  | p :: M => fnd1 hit p p.2.length ++ fndM hit M
theorem fndM_app (hit : Lab → Bool) : ∀ M N : Mod, fndM hit (M ++ N) = fndM hit M ++ fndM hit N
  | [], N => rfl
  | p :: M, N => by
    show fnd1 hit p p.2.length ++ fndM hit (M ++ N) = _
    rw [fndM_app hit M N, ← List.append_assoc]
    rfl
theorem fndM_snoc {hit : Lab → Bool} {M : Mod} {k : Nat} {q : Ent} (hq : M[k]? = some q) : fndM hit (M.take (k + 1)) = fndM hit (M.take k) ++ fnd1 hit q q.2.length := by
  rw [take_snoc hq, fndM_app]
  show _ ++ (_ ++ []) = _
  rw [List.append_nil]
theorem fnd1_snoc {hit : Lab → Bool} {q : Ent} {j : Nat} {y : Lab} (hy : q.2[j]? = some y) : fnd1 hit q (j + 1) = fnd1 hit q j ++ (if hit y = true then [q.1] else []) := by
  unfold fnd1
  rw [take_snoc hy, List.filter_append, List.map_append]
  congr 1
  by_cases h : hit y = true
  · rw [if_pos h, List.filter_cons_of_pos h]
    rfl
  · rw [if_neg h, List.filter_cons_of_neg h]
    rfl
theorem fnd1_len (hit : Lab → Bool) (q : Ent) (j : Nat) : (fnd1 hit q j).length ≤ q.2.length := by
  unfold fnd1
  rw [List.length_map]
  exact Nat.le_trans (List.length_filter_le _ _) (by rw [List.length_take]; omega)
theorem fndM_len (hit : Lab → Bool) : ∀ M : Mod, (fndM hit M).length ≤ sizeM M
  | [] => Nat.le_refl _
  | p :: M => by
    have h1 := fndM_len hit M
    have h2 := fnd1_len hit p p.2.length
    show (fnd1 hit p p.2.length ++ fndM hit M).length ≤ _
    rw [List.length_append]
    simp only [sizeM, List.map_cons, List.sum_cons] at h1 ⊢
    omega
theorem filter_one {n : ByteArray} {hit : Lab → Bool} (hh : ∀ y, hit y = true → y.1 = n) : ∀ l : List Lab, (namesI l).Nodup → ((l.filter hit).map fun _ => n) = if l.any hit then [n] else []
  | [], _ => rfl
  | a :: l, h => by
    obtain ⟨h1, h2⟩ := List.nodup_cons.1 (show (a.1 :: namesI l).Nodup from h)
    have ih := filter_one hh l h2
    by_cases ha : hit a = true
    · have hno : l.any hit = false := by
        rw [Bool.eq_false_iff]
        intro hy
        obtain ⟨z, hz, hz2⟩ := List.any_eq_true.1 hy
        exact h1 (List.mem_map.2 ⟨z, hz, (hh z hz2).trans (hh a ha).symm⟩)
      rw [List.filter_cons_of_pos ha, List.map_cons, ih, hno, List.any_cons, ha]
      rfl
    · have hf : hit a = false := by simpa using ha
      rw [List.filter_cons_of_neg ha, ih, List.any_cons, hf]
      rfl
theorem fndM_law {hit : Lab → Bool} {n : ByteArray} (hh : ∀ y, hit y = true → y.1 = n) : ∀ M : Mod, (∀ p ∈ M, (namesI p.2).Nodup) → fndM hit M = keysM (M.filter fun p => p.2.any hit)
  | [], _ => rfl
  | p :: M, h => by
    have ih := fndM_law hh M fun q hq => h q (List.mem_cons_of_mem _ hq)
    have h1 := filter_one hh p.2 (h p List.mem_cons_self)
    show fnd1 hit p p.2.length ++ fndM hit M = _
    rw [ih]
    have h2 : fnd1 hit p p.2.length = if p.2.any hit then [p.1] else [] := by
      unfold fnd1
      rw [List.take_length]
      by_cases ha : p.2.any hit = true
      · rw [if_pos ha] at h1 ⊢
        have hl := congrArg List.length h1
        rw [List.length_map] at hl
        match hf : p.2.filter hit with
        | [] => rw [hf] at hl; simp at hl
        | [z] => rfl
        | _ :: _ :: _ => rw [hf] at hl; simp at hl
      · rw [if_neg ha] at h1 ⊢
        have hl := congrArg List.length h1
        rw [List.length_map] at hl
        match hf : p.2.filter hit with
        | [] => rfl
        | _ :: _ => rw [hf] at hl; simp at hl
    rw [h2]
    by_cases ha : p.2.any hit = true
    · rw [if_pos ha, List.filter_cons_of_pos (by exact ha)]
      rfl
    · rw [if_neg ha, List.filter_cons_of_neg (by exact ha)]
      rfl
theorem fnd_find {M : Mod} (hM : GoodM M) (n v : ByteArray) : fndM (hitL n v false) M = findM M (n, v) := by
  rw [fndM_law (n := n) (fun y h => by unfold hitL at h; rw [Bool.and_eq_true, decide_eq_true_eq] at h; exact h.1) M fun p hp => good_nodup (right_good (hM.ent p hp).2.1)]
  unfold findM
  congr 2
  funext p
  unfold hasL
  congr 1
  funext y
  unfold hitL
  rw [Bool.eq_iff_iff]
  obtain ⟨y1, y2⟩ := y
  simp
theorem fnd_with {M : Mod} (hM : GoodM M) (n v : ByteArray) : fndM (hitL n v true) M = withM M n := by
  rw [fndM_law (n := n) (fun y h => by unfold hitL at h; rw [Bool.and_eq_true, decide_eq_true_eq] at h; exact h.1) M fun p hp => good_nodup (right_good (hM.ent p hp).2.1)]
  unfold withM
  congr 2
  funext p
  rw [Bool.eq_iff_iff, hasB_iff, List.any_eq_true]
  unfold hitL namesI
  rw [List.mem_map]
  constructor
  · rintro ⟨y, hy, h⟩
    exact ⟨y, hy, by simpa using h⟩
  · rintro ⟨y, hy, h⟩
    exact ⟨y, hy, by simpa using h⟩
theorem hit_no (v : ByteArray) (any : Bool) {n : ByteArray} {y : Lab} (h : y.1 ≠ n) : hitL n v any y = false := by
  unfold hitL
  rw [decide_eq_false h]
  rfl
set_option maxRecDepth 100000 in
set_option maxHeartbeats 4000000 in
theorem rFind_any (r : Nat) (M : Mod) (nm vl : ByteArray) (any : Bool) (w : World) (h : RefX w r M) (hM : GoodM M) (hl : M.length ≤ 100000) :
    Calls Try.prog 27 #[.pointer (some ⟨r, 0, none⟩), .string nm, .string vl, .bool any] w fun e w' => ∃ u, e = .returned u ∧ Txt w' u (fndM (hitL nm vl any) M) ∧ Ext w w' := by
  obtain ⟨A, n, c, es, hn, hnc, hc', hes, hents, hfld, hrd, hoff⟩ := h.parts
  have HN := Lib.hid hn
  have HR := Lib.hid hrd
  have HE := Lib.hid hents
  have HES := Lib.hid hes
  have HFD := Lib.hid hfld
  have HM := Lib.hid hM
  have HSZ : Hid (sizeM M ≤ 800000) := Lib.hid (by have := size_le hM; omega)
  have hn1 : n ≤ 100000 := by rw [← hn]; exact hl
  have d0 := heap_cell (hfld w (Ext.refl _)) 0
  clear h hn hrd hents hes hoff hfld hM
  go_enter Try.func27, Try.ntmps27
  go_wp2_with fail
  go_loopw [9, 10] (fun o i wr => ∃ k : Nat, k ≤ n ∧ i = .int .i64 (k : Int) ∧ Own w wr o (fndM (hitL nm vl any) (M.take k)) ∧ Ext w wr) (fun _ i _ => n - (intOf i).toNat)
  case atStart => exact ⟨0, by omega, rfl, World.ownsRow_nil _ _ _ _, Ext.refl _⟩
  case round =>
    obtain ⟨k, hk, rfl, hown, hx⟩ := hrel
    have HO := Lib.hid hown
    have HX := Lib.hid hx
    clear hown hx d0
    have d0 := heap_cell (HFD.out wr HX.out) 0
    by_cases hkn : k < n
    · have hkI : (k : Int) < (n : Int) := by omega
      have hkJ : (0 : Int) ≤ (k : Int) := by omega
      obtain ⟨q, hq⟩ : ∃ q, M[k]? = some q := ⟨_, List.getElem?_eq_getElem (by have := HN.out; omega)⟩
      obtain ⟨e, he, hok⟩ := HE.out.at_ hq
      obtain ⟨ad, rfl⟩ : ∃ ad, A = some ad := row_some HR.out entC_len (by decide) (by have := HES.out; omega)
      have HC := Lib.hid (fun wz (hw : Ext w wz) => ent_cells (HR.out.ext hw) he)
      have HMS := Lib.hid (fndM_snoc (hit := hitL nm vl any) hq)
      have HLA : Hid ((fndM (hitL nm vl any) (M.take k)).length ≤ 800000) := Lib.hid (by
        have h1 := fndM_len (hitL nm vl any) (M.take k)
        have h2 := size_take M k
        have h3 := HSZ.out
        omega)
      have hq8 := (right_ok (HM.out.ent q (List.mem_of_getElem? hq)).2.1).2
      obtain ⟨ek, ea, en, ec⟩ := e
      obtain rfl : ek = q.1 := hok.key
      have hrw := hok.row
      obtain ⟨q1, q2⟩ := q
      dsimp only at HC hrw hq8
      clear hq he hok
      obtain ⟨_, _, _, hr1, hr2, hr3, hr4, hr5⟩ := hrw
      injection hr1 with e1 e2 e3
      subst e1 e2 e3
      have HQ := Lib.hid hr2
      have HRQ := Lib.hid hr5
      have hec : ec ≤ 9223372036854775807 := by simpa [maxLen] using hr4
      rw [hr2] at hq8
      clear hr2 hr4 hr5
      go_wp2_with fail
      clear d0
      go_loopw [9, 11] (fun o j wq => ∃ i : Nat, i ≤ en ∧ j = .int .i64 (i : Int) ∧ Own w wq o (fndM (hitL nm vl any) (M.take k) ++ fnd1 (hitL nm vl any) (q1, q2) i) ∧ Ext w wq) (fun _ j _ => en - (intOf j).toNat)
      case atStart => exact ⟨0, by omega, rfl, by rw [show fnd1 (hitL nm vl any) (q1, q2) 0 = [] from rfl, List.append_nil]; exact HO.out, HX.out⟩
      case round =>
        obtain ⟨j, hj, rfl, hown, hx⟩ := hrel
        have HO2 := Lib.hid hown
        have HX2 := Lib.hid hx
        clear hown hx
        have d0 := heap_cell (HFD.out wr HX2.out) 0
        obtain ⟨c0, c1⟩ := HC.out wr HX2.out
        by_cases hjn : j < en
        · have hjI : (j : Int) < (en : Int) := by omega
          have hjJ : (0 : Int) ≤ (j : Int) := by omega
          obtain ⟨y, hy⟩ : ∃ y, q2[j]? = some y := ⟨_, List.getElem?_eq_getElem (by have := HQ.out; omega)⟩
          obtain ⟨ad2, rfl⟩ : ∃ ad, ea = some ad := row_some HRQ.out labC_len (by decide) (by have := HQ.out; omega)
          obtain ⟨r0, r1⟩ := lab_cells (HRQ.out.ext HX2.out) hy
          have HST := Lib.hid (fnd1_snoc (hit := hitL nm vl any) (q := (q1, q2)) hy)
          have HLB : Hid ((fnd1 (hitL nm vl any) (q1, q2) j).length ≤ 8) := Lib.hid (by have := fnd1_len (hitL nm vl any) (q1, q2) j; have := HQ.out; dsimp only at *; omega)
          obtain ⟨y1, y2⟩ := y
          dsimp only at r0 r1
          clear hy
          by_cases h1 : y1 = nm
          · cases any with
            | true =>
              have HH : Hid (hitL nm vl true (y1, y2) = true) := Lib.hid (by unfold hitL; simp [h1])
              subst h1
              have HY2 := Lib.hid (HST.out.trans (by rw [if_pos HH.out]))
              clear HST
              go_wp2_with (first
                | (at_builtin
                   refine app_strs _ rfl (.tmp 67) (.tmp 76) rfl w _ _ rfl (by exact own_later HO2.out (Ext.alloc wr _)) (some ⟨wr.heap.size, 0, none⟩) 1 1 [q1] rfl rfl (Rd.new wr #[.string q1] 9) (by simp only [List.length_append, List.length_singleton]; have := HLA.out; have := HLB.out; omega) (by exact HX2.out.trans (Ext.alloc wr _)) ?_
                   intro v7 w7 hown7 hext7))
              go_roundw
              case rel => exact ⟨j + 1, by omega, by go_num, by rw [HY2.out, ← List.append_assoc]; exact hown7, hext7⟩
              case measure => simp [intOf]; omega
            | false =>
              by_cases h2 : y2 = vl
              · have HH : Hid (hitL nm vl false (y1, y2) = true) := Lib.hid (by unfold hitL; simp [h1, h2])
                subst h1 h2
                have HY2 := Lib.hid (HST.out.trans (by rw [if_pos HH.out]))
                clear HST
                go_wp2_with (first
                  | (at_builtin
                     refine app_strs _ rfl (.tmp 67) (.tmp 76) rfl w _ _ rfl (by exact own_later HO2.out (Ext.alloc wr _)) (some ⟨wr.heap.size, 0, none⟩) 1 1 [q1] rfl rfl (Rd.new wr #[.string q1] 9) (by simp only [List.length_append, List.length_singleton]; have := HLA.out; have := HLB.out; omega) (by exact HX2.out.trans (Ext.alloc wr _)) ?_
                     intro v7 w7 hown7 hext7))
                go_roundw
                case rel => exact ⟨j + 1, by omega, by go_num, by rw [HY2.out, ← List.append_assoc]; exact hown7, hext7⟩
                case measure => simp [intOf]; omega
              · have HH : Hid (hitL nm vl false (y1, y2) = false) := Lib.hid (by unfold hitL; simp [h1, h2])
                have e2 : (y2.toList == vl.toList) = false := by rw [eq_dec]; exact decide_eq_false h2
                clear h2
                subst h1
                have HY2 := Lib.hid (HST.out.trans (by rw [if_neg (by rw [HH.out]; simp), List.append_nil]))
                clear HST
                go_wp2_with fail
                go_roundw
                case rel => exact ⟨j + 1, by omega, by go_num, by rw [HY2.out]; exact HO2.out, HX2.out⟩
                case measure => simp [intOf]; omega
          · have HH : Hid (hitL nm vl any (y1, y2) = false) := Lib.hid (hit_no vl any h1)
            have e1 : (y1.toList == nm.toList) = false := by rw [eq_dec]; exact decide_eq_false h1
            clear h1
            have HY2 := Lib.hid (HST.out.trans (by rw [if_neg (by rw [HH.out]; simp), List.append_nil]))
            clear HST
            go_wp2_with fail
            go_roundw
            case rel => exact ⟨j + 1, by omega, by go_num, by rw [HY2.out]; exact HO2.out, HX2.out⟩
            case measure => simp [intOf]; omega
        · obtain rfl : j = en := by omega
          have HMS2 : Hid (fndM (hitL nm vl any) (M.take (k + 1)) = fndM (hitL nm vl any) (M.take k) ++ fnd1 (hitL nm vl any) (q1, q2) j) := Lib.hid (by rw [HMS.out, HQ.out])
          go_wp2_with fail
          go_roundw
          case rel => exact ⟨k + 1, by omega, by go_num, by rw [HMS2.out]; exact HO2.out, HX2.out⟩
          case measure => simp [intOf]; omega
    · obtain rfl : k = n := by omega
      have HI : Hid (M.take k = M) := Lib.hid (List.take_of_length_le (by rw [HN.out]; exact Nat.le_refl _))
      go_wp2_with fail
      go_ret
      exact ⟨_, rfl, by have := txt_own HO.out; rw [HI.out] at this; exact this, HX.out⟩
end Go.Proofs.Ytebcjpapmjebgaa
