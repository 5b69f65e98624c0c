/- The document's graph in memory: Into, Of. -/
import Derived.Test.YtdahdghphjlmfaaGrrA
import Derived.Test.YtdahdghphjlmfaaSte
namespace Go.Proofs.Ytdahdghphjlmfaa
open Go.RowKit Sets Gra
set_option linter.unusedVariables false

/-- The document's graph at block r: its rules lie elsewhere. -/
def RefAt (w : World) (r : Nat) (L : List Rule) : Prop :=
  ∃ A n c, w.heap[r]? = some (.cells #[.slice A n c] 28 (0, 0)) ∧ L.length = n ∧ n ≤ c ∧ c ≤ maxLen ∧ Rd w A (L.flatMap ruleC) ∧ ∀ ad, A = some ad → ad.block ≠ r
theorem RefAt.ext {w w' : World} {r : Nat} {L : List Rule} (h : RefAt w r L) (hx : Ext w w') : RefAt w' r L := by
  obtain ⟨A, n, c, h1, h2, h3, h4, h5, h6⟩ := h
  exact ⟨A, n, c, (Kp.of_ext (L := []) hx).heap h1 (by simp), h2, h3, h4, h5.ext hx, h6⟩
theorem RefAt.cm {w w' : World} {r : Nat} {L : List Rule} (h : RefAt w r L) (hx : Cm w w') : RefAt w' r L := by
  obtain ⟨A, n, c, h1, h2, h3, h4, h5, h6⟩ := h
  exact ⟨A, n, c, hx.cells _ _ _ _ h1, h2, h3, h4, hx.rd h5, h6⟩
theorem into_next {L : List Rule} {k : Nat} {d : ByteArray} {q : Rule} (h : (L.take k).find? (fun r => decide (r.dst = d)) = none) (hq : L[k]? = some q) : (L.take (k + 1)).find? (fun r => decide (r.dst = d)) = if q.dst = d then some q else none := by
  rw [List.take_add_one, hq, List.find?_append, h]
  simp only [Option.toList_some, Option.none_or, List.find?_cons, List.find?_nil]
  split <;> rename_i hh <;> simp at hh <;> simp [hh]
theorem find_take {L : List Rule} {k : Nat} {p : Rule → Bool} {q : Rule} (h : (L.take k).find? p = some q) : L.find? p = some q := by
  rw [← List.take_append_drop k L, List.find?_append, h]
  rfl
set_option maxHeartbeats 1000000 in
theorem rInto_any (r : Nat) (L : List Rule) (d : ByteArray) (w : World) (h : RefAt w r L) :
    Calls Try.prog 21 #[.pointer (some ⟨r, 0, none⟩), .string d] w fun e w' => e = .returned (.tuple #[ruleV (intoV L d), .bool (intoL L d).isSome]) ∧ Ext w w' := by
  obtain ⟨A, n, c, h1, hn, hnc, hcm, hr, hne⟩ := h
  have HB := Lib.hid h1
  have HN := Lib.hid hn
  have HR := Lib.hid hr
  have hc' : c ≤ 9223372036854775807 := by simpa [maxLen] using hcm
  clear hn hr hcm hne
  have hb0 := heap_cell h1 0
  clear h1
  go_enter Try.func21, Try.ntmps21
  go_wp2_with fail
  have hbw := HB.out
  have hx1 := Ext.alloc w (.cells #[.string ⟨#[]⟩, .string ⟨#[]⟩, .int .i64 0, .int .i64 0, .int .i64 0] 38)
  have hb0 := heap_cell ((Kp.of_ext (L := []) hx1).heap hbw (by simp)) 0
  have HX1 := Lib.hid hx1
  clear hbw hx1
  go_loop [6] (fun i => ∃ k : Nat, k ≤ n ∧ i = .int .i64 (k : Int) ∧ Hid ((L.take k).find? (fun r => decide (r.dst = d)) = none)) (fun i => n - (intOf i).toNat)
  case atStart => exact ⟨0, by omega, rfl, Lib.hid rfl⟩
  case round =>
    obtain ⟨k, hk, rfl, HF⟩ := hrel
    by_cases hkn : k < n
    · obtain ⟨q, hq⟩ : ∃ q, L[k]? = some q := ⟨_, List.getElem?_eq_getElem (by have := HN.out; omega)⟩
      obtain ⟨ad, rfl⟩ : ∃ ad, A = some ad := row_some HR.out ruleC_len (by decide) (by have := HN.out; omega)
      obtain ⟨c0, c1, c2, c3, c4⟩ := rule_cells (HR.out.ext HX1.out) hq
      have hnx := into_next HF.out hq
      have hkI : (k : Int) < (n : Int) := by omega
      have hkJ : (0 : Int) ≤ (k : Int) := by omega
      by_cases hd : q.dst = d
      · have HI : Hid (intoL L d = some q) := Lib.hid (find_take (by rw [hnx, if_pos hd]))
        obtain ⟨qs, qd, qk, qz, qa⟩ := q
        obtain rfl : qd = d := hd
        clear hnx hq
        go_wp2_with fail
        exact bodyPost_ret (v := .tuple #[.agg #[.string qs, .string qd, .int .i64 qk, .int .i64 qz, .int .i64 qa], .bool true]) (by simp [results, Try.results21, go_sem]) rfl ⟨by rw [intoV, HI.out]; rfl, Ext.alloc w _⟩
      · have HI := Lib.hid (hnx.trans (if_neg hd))
        obtain ⟨qs, qd, qk, qz, qa⟩ := q
        have e1 : (qd.toList == d.toList) = false := by rw [eq_dec]; simpa using hd
        clear hnx hq hd
        go_wp2_with fail
        go_round
        case rel => exact ⟨k + 1, by omega, by go_num, HI⟩
        case measure => simp [intOf]; omega
    · obtain rfl : k = n := by omega
      have HI : Hid (intoL L d = none) := Lib.hid (by have := HF.out; rw [List.take_of_length_le (by rw [HN.out]; exact Nat.le_refl _)] at this; exact this)
      go_wp2_with fail
      exact bodyPost_ret (v := .tuple #[.agg #[.string ⟨#[]⟩, .string ⟨#[]⟩, .int .i64 0, .int .i64 0, .int .i64 0], .bool false]) (by simp [results, Try.results21, go_sem]) rfl ⟨by rw [intoV, HI.out]; rfl, Ext.alloc w _⟩
theorem filt_next {L : List Rule} {k : Nat} {p : Rule → Bool} {q : Rule} (hq : L[k]? = some q) : (L.take (k + 1)).filter p = (L.take k).filter p ++ if p q then [q] else [] := by
  rw [List.take_add_one, hq, List.filter_append]
  cases h : p q <;> simp [h]
set_option maxHeartbeats 1000000 in
theorem rOf_any (r : Nat) (L : List Rule) (s : ByteArray) (w : World) (h : RefAt w r L) (hlen : L.length ≤ 100000) :
    Calls Try.prog 26 #[.pointer (some ⟨r, 0, none⟩), .string s] w fun e w' => ∃ u, e = .returned u ∧ Row ruleC w' u (ofL L s) ∧ Ext w w' := by
  obtain ⟨i1, hi1, hz3, hz4, hz5⟩ := info_parts Try.docInfo
  obtain ⟨A, n, c, h1, hn, hnc, hcm, hr, hne⟩ := h
  have HB := Lib.hid h1
  have HN := Lib.hid hn
  have HR := Lib.hid hr
  have hc' : c ≤ 9223372036854775807 := by simpa [maxLen] using hcm
  have hn1 : n ≤ 100000 := by rw [← hn]; exact hlen
  clear hn hr hcm hne
  have hb0 := heap_cell h1 0
  clear h1
  go_enter Try.func26, Try.ntmps26
  go_wp2_with fail
  go_loopw [5, 6] (fun o i wr => ∃ k : Nat, k ≤ n ∧ i = .int .i64 (k : Int) ∧ wr.ownsRow w.heap.size 38 5 o ((L.take k).filter (fun q => decide (q.src = s))).length (((L.take k).filter (fun q => decide (q.src = s))).flatMap ruleC) ∧ Ext w wr) (fun _ i _ => n - (intOf i).toNat)
  case atStart => exact ⟨0, by omega, rfl, World.ownsRow_nil _ _ _ _, Ext.refl _⟩
  case round =>
    obtain ⟨k, hk, rfl, hown, hext⟩ := hrel
    have HO := Lib.hid hown
    have HE := Lib.hid hext
    have hlf := List.length_filter_le (fun q : Rule => decide (q.src = s)) (L.take k)
    have hlt : (L.take k).length ≤ k := by rw [List.length_take]; omega
    clear hown hext
    have d0 := heap_cell ((Kp.of_ext (L := []) HE.out).heap HB.out (by simp)) 0
    clear hb0
    by_cases hkn : k < n
    · obtain ⟨q, hq⟩ : ∃ q, L[k]? = some q := ⟨_, List.getElem?_eq_getElem (by have := HN.out; omega)⟩
      obtain ⟨ad, rfl⟩ : ∃ ad, A = some ad := row_some HR.out ruleC_len (by decide) (by have := HN.out; omega)
      obtain ⟨c0, c1, c2, c3, c4⟩ := rule_cells (HR.out.ext HE.out) hq
      have hnx := filt_next (p := fun q => decide (q.src = s)) hq
      have hkI : (k : Int) < (n : Int) := by omega
      have hkJ : (0 : Int) ≤ (k : Int) := by omega
      by_cases hd : q.src = s
      · have HI := Lib.hid (hnx.trans (by rw [if_pos (by simpa using hd)]))
        obtain ⟨qs, qd, qk, qz, qa⟩ := q
        obtain rfl : qs = s := hd
        clear hnx hq
        have hx6 : Ext wr (wr.alloc (.cells #[.string qs, .string qd, .int .i64 qk, .int .i64 qz, .int .i64 qa] 38)) := Ext.alloc _ _
        go_wp2_with (first
          | (at_builtin
             refine app_row ruleC_len ruleC_one _ rfl (.tmp 26) (.tmp 34) 26 38 rfl i1 (.agg #[.string ByteArray.empty, .string ByteArray.empty, .int .i64 0, .int .i64 0, .int .i64 0]) 56 Try.underlying26 hi1 hz3 hz4 hz5 rfl (by decide) (by decide) w.heap.size _ _ rfl (by exact own_later HO.out hx6) (Nat.le_trans HE.out.size hx6.size) (some ⟨wr.heap.size, 0, none⟩) 1 1 [⟨qs, qd, qk, qz, qa⟩] rfl rfl (by exact Rd.new wr #[_, _, _, _, _] 38) (by simp only [List.length_singleton]; omega) ?_
             intro v7 w7 hown7 hchg7
             have hext7 := ((Chg.of_ext (HE.out.trans hx6)).trans hchg7).to_ext (Nat.le_refl _)
             clear hchg7))
        go_roundw
        case rel => exact ⟨k + 1, by omega, by go_num, by rw [HI.out]; exact hown7, hext7⟩
        case measure => simp [intOf]; omega
      · have HI := Lib.hid (hnx.trans (by rw [if_neg (by simpa using hd), List.append_nil]))
        obtain ⟨qs, qd, qk, qz, qa⟩ := q
        have e1 : (qs.toList == s.toList) = false := by rw [eq_dec]; simpa using hd
        clear hnx hq hd
        go_wp2_with fail
        go_roundw
        case rel => exact ⟨k + 1, by omega, by go_num, by rw [HI.out]; exact HO.out, HE.out⟩
        case measure => simp [intOf]; omega
    · obtain rfl : k = n := by omega
      have HI : Hid (L.take k = L) := Lib.hid (List.take_of_length_le (by rw [HN.out]; exact Nat.le_refl _))
      go_wp2_with fail
      go_ret
      exact ⟨_, rfl, by have := own_row HO.out; rw [HI.out] at this; exact this, HE.out⟩
end Go.Proofs.Ytdahdghphjlmfaa
