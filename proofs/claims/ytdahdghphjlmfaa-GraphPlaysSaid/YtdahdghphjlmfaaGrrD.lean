/- The document's graph: Gone, Drop. -/
import Derived.Test.YtdahdghphjlmfaaGrrC
namespace Go.Proofs.Ytdahdghphjlmfaa
open Go.RowKit Sets Gra
set_option linter.unusedVariables false

theorem ref_lt {w : World} {r : Nat} {L : List Rule} (h : RefAt w r L) : r < w.heap.size := by
  obtain ⟨A, n, c, h1, _⟩ := h
  exact (Array.getElem?_eq_some_iff.1 h1).1
def notAt (key : ByteArray) (q : Rule) : Bool := !(decide (q.src = key) || decide (q.dst = key))
theorem gone_eq (L : List Rule) (key : ByteArray) : goneL L key = L.filter (notAt key) := rfl
set_option maxRecDepth 100000 in
set_option maxHeartbeats 8000000 in
theorem rGone_any (r : Nat) (L : List Rule) (key : ByteArray) (w : World) (h : RefAt w r L) (hlen : L.length ≤ 100000) :
    Calls Try.prog 18 #[.pointer (some ⟨r, 0, none⟩), .string key] w fun e w' => e = .returned (.int .i64 (((L.filter (isAt key)).length : Nat) : Int)) ∧ RDid w w' r (goneL L key) := by
  obtain ⟨i1, hi1, hz3, hz4, hz5⟩ := info_parts Try.docInfo
  have hrw := ref_lt h
  have HGL := Lib.hid (gone_len L key)
  obtain ⟨A, n, c, hn, hnc, hcm, hrd, hfld⟩ := ref_cells h
  have hc' : c ≤ 9223372036854775807 := by simpa [maxLen] using hcm
  have HN := Lib.hid hn
  have HR := Lib.hid hrd
  have HFD := Lib.hid hfld
  have hn1 : n ≤ 100000 := by rw [← hn]; exact hlen
  clear h hn hrd hfld hcm
  have d0 := heap_cell (HFD.out w (Ext.refl _)) 0
  go_enter Try.func18, Try.ntmps18
  go_wp2_with fail
  go_loopw [5, 6] (fun o i wr => ∃ k : Nat, k ≤ n ∧ i = .int .i64 (k : Int) ∧ wr.ownsRow w.heap.size 38 5 o ((L.take k).filter (notAt key)).length (((L.take k).filter (notAt key)).flatMap ruleC) ∧ Ext w wr) (fun _ i _ => n - (intOf i).toNat)
  case atStart => exact ⟨0, by omega, rfl, World.ownsRow_nil _ _ _ _, Ext.refl _⟩
  case round =>
    obtain ⟨k, hk, rfl, hown, hext⟩ := hrel
    have HO := Lib.hid hown
    have HE := Lib.hid hext
    have HB := Lib.hid hext.size
    have hlf := List.length_filter_le (notAt key) (L.take k)
    have hlt : (L.take k).length ≤ k := by rw [List.length_take]; omega
    clear hown hext d0
    have d0 := heap_cell (HFD.out wr HE.out) 0
    by_cases hkn : k < n
    · have hkI : (k : Int) < (n : Int) := by omega
      have hkJ : (0 : Int) ≤ (k : Int) := by omega
      obtain ⟨y, hy⟩ : ∃ y, L[k]? = some y := ⟨_, List.getElem?_eq_getElem (by have := HN.out; omega)⟩
      obtain ⟨ad, rfl⟩ : ∃ ad, A = some ad := row_some HR.out ruleC_len (by decide) (by have := HN.out; omega)
      obtain ⟨c0, c1, c2, c3, c4⟩ := rule_cells (HR.out.ext HE.out) hy
      have hnx := filt_next (p := notAt key) hy
      have hx6 : Ext wr (wr.alloc (.cells #[.string y.src, .string y.dst, .int .i64 y.kind, .int .i64 y.size, .int .i64 y.align] 38)) := Ext.alloc _ _
      by_cases hs : y.src = key
      · have HI := Lib.hid (hnx.trans (by rw [if_neg (by simp [notAt, hs]), List.append_nil]))
        obtain ⟨ys, yd, yk, yz, ya⟩ := y
        obtain rfl : ys = key := hs
        clear hnx hy
        go_wp2_with fail
        go_roundw
        case rel => exact ⟨k + 1, by omega, by go_num, by rw [HI.out]; exact HO.out, HE.out⟩
        case measure => simp [intOf]; omega
      · by_cases hd : y.dst = key
        · have HI := Lib.hid (hnx.trans (by rw [if_neg (by simp [notAt, hd]), List.append_nil]))
          obtain ⟨ys, yd, yk, yz, ya⟩ := y
          obtain rfl : yd = key := hd
          have e1 : (ys.toList == yd.toList) = false := by rw [eq_dec]; simpa using hs
          clear hnx hy hs
          go_wp2_with fail
          go_roundw
          case rel => exact ⟨k + 1, by omega, by go_num, by rw [HI.out]; exact HO.out, HE.out⟩
          case measure => simp [intOf]; omega
        · have HI := Lib.hid (hnx.trans (by rw [if_pos (by simp [notAt, hs, hd])]))
          obtain ⟨ys, yd, yk, yz, ya⟩ := y
          have e1 : (ys.toList == key.toList) = false := by rw [eq_dec]; simpa using hs
          have e2 : (yd.toList == key.toList) = false := by rw [eq_dec]; simpa using hd
          clear hnx hy hs hd
          go_wp2_with (first
            | (at_builtin
               refine app_row ruleC_len ruleC_one _ rfl (.tmp 39) (.tmp 47) 26 38 rfl i1 (.agg #[.string ByteArray.empty, .string ByteArray.empty, .int .i64 0, .int .i64 0, .int .i64 0]) 56 Try.underlying26 hi1 hz3 hz4 hz5 rfl (by decide) (by decide) w.heap.size _ _ rfl (by exact own_later HO.out hx6) (Nat.le_trans HB.out hx6.size) (some ⟨wr.heap.size, 0, none⟩) 1 1 [⟨ys, yd, yk, yz, ya⟩] rfl rfl (by exact Rd.new wr #[_, _, _, _, _] 38) (by simp only [List.length_singleton]; omega) ?_
               intro v7 w7 hown7 hchg7
               have HO7 := Lib.hid hown7
               have HE7 := Lib.hid (((Chg.of_ext (HE.out.trans hx6)).trans hchg7).to_ext (Nat.le_refl _))
               clear hchg7 hown7))
          go_roundw
          case rel => exact ⟨k + 1, by omega, by go_num, by rw [HI.out]; exact HO7.out, HE7.out⟩
          case measure => simp [intOf]; omega
    · obtain rfl : k = n := by omega
      have HI : Hid (L.take k = L) := Lib.hid (List.take_of_length_le (by rw [HN.out]; exact Nat.le_refl _))
      have hown := HO.out
      rw [HI.out, ← gone_eq] at hown
      have hgl := HGL.out
      rw [HN.out] at hgl
      generalize hm : (goneL L key).length = m at hown hgl
      have HM := Lib.hid hm
      clear hm HO
      obtain ⟨A9, c9, rfl, _, _, _⟩ := own_slice hown
      have HO := Lib.hid hown
      clear hown hlf
      have f0 := heap_frozen (HFD.out wr HE.out) 0
      have e1 : (k : Int) - (m : Int) = (((L.filter (isAt key)).length : Nat) : Int) := by omega
      have e2 : IntKind.i64.wrap (((L.filter (isAt key)).length : Nat) : Int) = (((L.filter (isAt key)).length : Nat) : Int) := by rw [IntWalk.i64_left]; unfold wrap64; omega
      have HST := Lib.hid (ref_store (L := goneL L key) (by rw [HM.out]; exact HO.out) hrw (HFD.out wr HE.out))
      clear hgl
      go_wp2_with fail
      go_ret
      exact ⟨rfl, HST.out, (Kp.of_ext HE.out).and (Kp.store r 0 _ (by simp))⟩
end Go.Proofs.Ytdahdghphjlmfaa
