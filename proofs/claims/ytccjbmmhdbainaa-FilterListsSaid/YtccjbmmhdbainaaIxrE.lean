/- The document's index: Drop. -/
import Derived.Test.YtccjbmmhdbainaaIxrC
namespace Go.Proofs.Ytccjbmmhdbainaa
open Go.RowKit Sets
set_option linter.unusedVariables false
set_option maxRecDepth 100000
set_option linter.unusedSectionVars false
set_option linter.unusedSimpArgs false

/-- What a call has done to the document's index. -/
structure RDx (w w' : World) (r : Nat) (M : Mod) : Prop where
  at_ : RefX w' r M
  kp : Kp [r] w w'
theorem RDx.of_ext {w w' : World} {r : Nat} {M : Mod} (h : RefX w r M) (hx : Ext w w') : RDx w w' r M := ⟨h.ext hx, Kp.of_ext hx⟩
/-- The index' field, set anew. -/
theorem refX_store {w : World} {B r : Nat} {x v : Value} {es : List EntV} {M : Mod} (hown : w.ownsRow B 83 2 v es.length (es.flatMap entC)) (hr : r < B) (hb : w.heap[r]? = some (.cells #[x] 78 (0, 0))) (hE : Ents w r es M) :
    RefX (w.setCell ⟨r, 0, none⟩ v) r M := by
  have s1 := heap_setCell_same w r 0 _ _ v hb
  obtain ⟨A, c, rfl, h1, h2, h3⟩ := own_slice hown
  have hne : ∀ ad, A = some ad → ad.block ≠ r := by
    intro ad e
    subst e
    rcases hown.2 with ⟨h, _⟩ | ⟨g, cap, cur, h, hg, _⟩
    · simp at h
    · simp at h
      obtain ⟨rfl, _⟩ := h
      show g ≠ r
      omega
  exact ⟨A, es.length, c, es, s1, hE.1.symm, h1, h2, (Kp.store (L := [r]) r 0 _ (by simp)).rd h3 (fun ad e => by simpa using hne ad e), hne, hE.kp (Kp.store r 0 _ (by simp))⟩
theorem drop_snoc {M : Mod} {k : Nat} {key : ByteArray} {q : Ent} (hq : M[k]? = some q) : dropM (M.take (k + 1)) key = dropM (M.take k) key ++ (if q.1 ≠ key then [q] else []) := by
  unfold dropM
  rw [take_snoc hq, List.filter_append]
  congr 1
  by_cases h : q.1 = key
  · rw [if_neg (fun h2 => h2 h), List.filter_cons_of_neg (by simp [h])]
    rfl
  · rw [if_pos h, List.filter_cons_of_pos (by simp [h])]
    rfl
theorem drop_lt (M : Mod) (key : ByteArray) : (dropM M key).length < M.length ↔ (lkM M key).isSome = true := by
  rw [lk_is]
  induction M with
  | nil => simp [keysM, dropM]
  | cons a M ih =>
    have hl : (dropM M key).length ≤ M.length := List.length_filter_le _ _
    by_cases e : a.1 = key
    · have hd : dropM (a :: M) key = dropM M key := by
        unfold dropM
        rw [List.filter_cons_of_neg (by simp [e])]
      rw [hd, List.length_cons]
      constructor
      · intro _
        rw [mem_keysM]
        exact ⟨a, List.mem_cons_self, e⟩
      · intro _
        omega
    · have hd : dropM (a :: M) key = a :: dropM M key := by
        unfold dropM
        rw [List.filter_cons_of_pos (by simp [e])]
      rw [hd, List.length_cons, List.length_cons, Nat.add_lt_add_iff_right, ih]
      rw [mem_keysM, mem_keysM]
      constructor
      · rintro ⟨p, hp, h⟩
        exact ⟨p, List.mem_cons_of_mem _ hp, h⟩
      · rintro ⟨p, hp, h⟩
        rcases List.mem_cons.1 hp with rfl | hp
        · exact absurd h e
        · exact ⟨p, hp, h⟩
set_option maxRecDepth 100000 in
set_option maxHeartbeats 4000000 in
theorem rDrop_any (r : Nat) (M : Mod) (key : ByteArray) (w : World) (h : RefX w r M) (hl : M.length ≤ 100000) :
    Calls Try.prog 55 #[.pointer (some ⟨r, 0, none⟩), .string key] w fun e w' => e = .returned (.bool (lkM M key).isSome) ∧ RDx w w' r (dropM M key) := by
  obtain ⟨i1, hi1, hz3, hz4, hz5⟩ := info_parts Try.entInfo
  have hrw := h.lt
  have HLT := Lib.hid (drop_lt M key)
  obtain ⟨A, n, c, es, hn, hnc, hc', hes, hents, hfld, hrd, hoff⟩ := h.parts
  have HN := Lib.hid hn
  have HR := Lib.hid hrd
  have HE := Lib.hid hents
  have HES := Lib.hid hes
  have HFD := Lib.hid hfld
  have hn1 : n ≤ 100000 := by rw [← hn]; exact hl
  have d0 := heap_cell (hfld w (Ext.refl _)) 0
  clear h hn hrd hents hes hoff hfld
  go_enter Try.func55, Try.ntmps55
  go_wp2_with fail
  go_loopw [5, 6] (fun o i wr => ∃ (k : Nat) (os : List EntV), k ≤ n ∧ i = .int .i64 (k : Int) ∧ wr.ownsRow w.heap.size 83 2 o os.length (os.flatMap entC) ∧ Ents w r os (dropM (M.take k) key) ∧ Ext w wr) (fun _ i _ => n - (intOf i).toNat)
  case atStart => exact ⟨0, [], by omega, rfl, World.ownsRow_nil _ _ _ _, Ents.nil _ _, Ext.refl _⟩
  case round =>
    obtain ⟨k, os, hk, rfl, hown, hen, hx⟩ := hrel
    have HO := Lib.hid hown
    have HX := Lib.hid hx
    have HEN := Lib.hid hen
    have HB := Lib.hid hx.size
    clear hown hx d0 hen
    have d0 := heap_cell (HFD.out wr HX.out) 0
    by_cases hkn : k < n
    · have hkI : (k : Int) < (n : Int) := by omega
      have hkJ : (0 : Int) ≤ (k : Int) := by omega
      obtain ⟨q, hq⟩ : ∃ q, M[k]? = some q := ⟨_, List.getElem?_eq_getElem (by have := HN.out; omega)⟩
      obtain ⟨e, he, hok⟩ := HE.out.at_ hq
      obtain ⟨ad, rfl⟩ : ∃ ad, A = some ad := row_some HR.out entC_len (by decide) (by have := HES.out; omega)
      obtain ⟨c0, c1⟩ := ent_cells (HR.out.ext HX.out) he
      have HST := Lib.hid (drop_snoc (key := key) hq)
      have HOL : Hid (os.length ≤ 100000) := Lib.hid (by
        rw [HEN.out.1]
        have h1 : (dropM (M.take k) key).length ≤ (M.take k).length := List.length_filter_le _ _
        rw [List.length_take] at h1
        omega)
      have HOK := Lib.hid hok
      obtain ⟨ek, ea, en, ec⟩ := e
      obtain rfl : ek = q.1 := hok.key
      obtain ⟨q1, q2⟩ := q
      dsimp only at c0 c1 HST HOK
      clear hq he hok
      by_cases hd : q1 = key
      · have HI : Hid (dropM (M.take (k + 1)) key = dropM (M.take k) key) := Lib.hid (by rw [HST.out, if_neg (fun h2 => h2 hd), List.append_nil])
        clear HST
        subst hd
        go_wp2_with fail
        go_roundw
        case rel => exact ⟨k + 1, os, by omega, by go_num, HO.out, by rw [HI.out]; exact HEN.out, HX.out⟩
        case measure => simp [intOf]; omega
      · have HI : Hid (dropM (M.take (k + 1)) key = dropM (M.take k) key ++ [(q1, q2)]) := Lib.hid (by rw [HST.out, if_pos hd])
        have e1 : (q1.toList == key.toList) = false := by rw [eq_dec]; exact decide_eq_false hd
        clear HST hd
        have hx6 : Ext wr (wr.alloc (.cells #[.string q1, .slice ea en ec] 83)) := Ext.alloc _ _
        go_wp2_with (first
          | (at_builtin
             refine app_row entC_len entC_one _ rfl (.tmp 27) (.tmp 35) 76 83 rfl i1 (.agg #[.string ByteArray.empty, .slice none 0 0]) 40 Try.underlying76 hi1 hz3 hz4 hz5 rfl (by decide) (by decide) w.heap.size _ os rfl (by exact own_later HO.out hx6) (Nat.le_trans HB.out hx6.size) (some ⟨wr.heap.size, 0, none⟩) 1 1 [⟨q1, ea, en, ec⟩] rfl rfl (by exact Rd.new wr #[_, _] 83) (by have := HOL.out; simp only [List.length_singleton]; omega) ?_
             intro v7 w7 hown7 hchg7
             have HO7 := Lib.hid hown7
             have HE7 := Lib.hid (((Chg.of_ext (HX.out.trans hx6)).trans hchg7).to_ext (Nat.le_refl _))
             clear hchg7 hown7))
        go_roundw
        case rel => exact ⟨k + 1, os ++ [⟨q1, ea, en, ec⟩], by omega, by go_num, HO7.out, by rw [HI.out]; exact HEN.out.snoc HOK.out, HE7.out⟩
        case measure => simp [intOf]; omega
    · obtain rfl : k = n := by omega
      have HI : Hid (M.take k = M) := Lib.hid (List.take_of_length_le (by rw [HN.out]; exact Nat.le_refl _))
      have hen := HEN.out
      rw [HI.out] at hen
      have hml : os.length = (dropM M key).length := hen.1
      have HFIN := Lib.hid (refX_store HO.out hrw (HFD.out wr HX.out) (hen.ext HX.out))
      obtain ⟨A9, c9, rfl, _, _, _⟩ := own_slice HO.out
      have f0 := heap_frozen (HFD.out wr HX.out) 0
      have hlt := HLT.out
      rw [← hml, HN.out] at hlt
      generalize os.length = m at hlt HFIN ⊢
      clear hen hml HEN HO HLT
      by_cases hm : m < k
      · have hmI : (m : Int) < (k : Int) := by omega
        have HS := Lib.hid (hlt.1 hm)
        clear hlt
        go_wp2_with fail
        go_ret
        exact ⟨by rw [HS.out]; rfl, HFIN.out, (Kp.of_ext HX.out).and (Kp.store r 0 _ (by simp))⟩
      · have hmI : ¬ (m : Int) < (k : Int) := by omega
        have HS : Hid ((lkM M key).isSome = false) := Lib.hid (by rw [Bool.eq_false_iff]; exact fun h => hm (hlt.2 h))
        clear hlt
        go_wp2_with fail
        go_ret
        exact ⟨by rw [HS.out]; rfl, HFIN.out, (Kp.of_ext HX.out).and (Kp.store r 0 _ (by simp))⟩
end Go.Proofs.Ytccjbmmhdbainaa
