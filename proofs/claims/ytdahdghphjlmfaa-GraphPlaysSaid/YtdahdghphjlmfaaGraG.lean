/- The walk of package graph's Gone. -/
import Derived.Test.YtdahdghphjlmfaaGraA
import Derived.StillTailTactics
import Derived.Deep.LoopGhost
namespace Go.Proofs.Ytdahdghphjlmfaa
open Go.RowKit Sets Gra
set_option linter.unusedVariables false

def leftL (L G : List Rule) (k : Nat) : List Rule := L.filter fun q => (G.take k).all fun r => decide (q.dst ≠ r.dst)
theorem left_zero (L G : List Rule) : leftL L G 0 = L := by
  unfold leftL
  exact List.filter_eq_self.2 fun _ _ => by simp
theorem left_succ (L G : List Rule) (k : Nat) (r : Rule) (h : G[k]? = some r) : (leftL L G k).filter (fun q => decide (q.dst ≠ r.dst)) = leftL L G (k + 1) := by
  unfold leftL
  rw [List.filter_filter, List.take_add_one, h]
  refine List.filter_congr fun q _ => ?_
  rw [List.all_append, Bool.and_comm]
  simp
theorem left_end (L : List Rule) (p : Rule → Bool) (h : Ok L) : leftL L (L.filter p) (L.filter p).length = L.filter fun q => !(p q) := by
  unfold leftL
  rw [List.take_of_length_le (Nat.le_refl _)]
  refine List.filter_congr fun q hq => ?_
  cases hp : p q with
  | true =>
    simp only [Bool.not_true]
    rw [List.all_eq_false]
    exact ⟨q, List.mem_filter.2 ⟨hq, hp⟩, by simp⟩
  | false =>
    simp only [Bool.not_false]
    rw [List.all_eq_true]
    intro r hr
    obtain ⟨hr1, hr2⟩ := List.mem_filter.1 hr
    simp only [decide_eq_true_eq]
    intro e
    have := h.inj hq hr1 e
    subst this
    rw [hp] at hr2
    cases hr2
theorem ok_dst {L : List Rule} (h : Ok L) {r : Rule} (hr : r ∈ L) : r.dst.size ≤ 64 := by
  have := h.right r hr
  simp [rightR, keyR] at this
  omega

set_option maxHeartbeats 1000000 in
theorem gone_any (B g : Nat) (L : List Rule) (s : ByteArray) (w : World) (h : GraphAt B w g L) (hlen : L.length ≤ 100000) (hB : B ≤ w.heap.size) :
    Calls Try.prog 17 #[.pointer (some ⟨g, 0, none⟩), .string s] w fun e w' => e = .returned (.int .i64 ((L.filter (isAt s)).length : Int)) ∧ GDid B w w' g (goneL L s) := by
  have H := Lib.hid (h.ext (Ext.alloc w (.cells #[.string s] 9)))
  have HW := Lib.hid h
  have HOK := Lib.hid h.ok
  clear h
  have hgl : goneL L s = L.filter fun q => !(isAt s q) := rfl
  rw [hgl]
  obtain ⟨G, hG⟩ : ∃ G, G = L.filter (isAt s) := ⟨_, rfl⟩
  rw [← hG]
  clear hgl
  have hc : (w.alloc (.cells #[.string s] 9)).cell? ⟨w.heap.size, 0, none⟩ = some (.string s) := heap_cell (heap_alloc_new w _) 0
  go_enter Try.func17, Try.ntmps17
  go_wp2_with fail
  refine (pick_any (isAt s) 31 #[.pointer (some ⟨w.heap.size, 0, none⟩)] goneQ_call B g L _ H.out hlen (fun r w' hx => goneQ_any s _ r w' (hx.cell hc))).mono ?_
  rintro e w1 ⟨v, rfl, hr, hx⟩
  obtain ⟨A, n, c, rfl, hn, hnc, hcm, hr⟩ := hr
  have hend := left_end L (isAt s) HOK.out
  have hml := List.length_filter_le (isAt s) L
  have hmem : ∀ r ∈ L.filter (isAt s), r.dst.size ≤ 64 := fun r hr => ok_dst HOK.out (List.mem_filter.1 hr).1
  rw [← hG] at hr hn hend hml hmem
  have HR := Lib.hid hr
  have HN := Lib.hid hn
  have HE := Lib.hid hend
  have HM := Lib.hid hmem
  have HX := Lib.hid ((Ext.alloc w _).trans hx)
  have HG := Lib.hid (H.out.ext hx)
  clear hr hn hx hmem hc H hG hend
  have hn1 : n ≤ 100000 := by rw [← HN.out]; omega
  go_wp2_with fail
  go_loopw [13] (fun i wr => ∃ k : Nat, k ≤ n ∧ i = .int .i64 (k : Int) ∧ GDid B w wr g (leftL L G k) ∧ Cm w1 wr) (fun i _ => n - (intOf i).toNat)
  case atStart => exact ⟨0, by omega, rfl, by rw [left_zero]; exact GDid.of_ext HW.out HX.out hB, Cm.refl _⟩
  case round =>
    obtain ⟨k, hk, rfl, hg, hcm1⟩ := hrel
    have HK := Lib.hid hg
    have HC := Lib.hid hcm1
    clear hg hcm1
    by_cases hkn : k < n
    · obtain ⟨q, hq⟩ : ∃ q, G[k]? = some q := ⟨_, List.getElem?_eq_getElem (by have := HN.out; omega)⟩
      obtain ⟨ad, rfl⟩ : ∃ ad, A = some ad := row_some HR.out ruleC_len (by decide) (by have := HN.out; omega)
      have hrw := HC.out.rd HR.out
      have hsz := HM.out q (List.mem_of_getElem? hq)
      have hls := left_succ L G k q hq
      obtain ⟨qs, qd, qk, qz, qa⟩ := q
      have c0 : wr.cell? (ad.add (k * 5)) = some (.string qs) := row_cell ruleC_len hrw k 0 hq rfl
      have c1 : wr.cell? ⟨(ad.add (k * 5)).block, (ad.add (k * 5)).off + 1, none⟩ = some (.string qd) := row_field ruleC_len hrw k 1 (by decide) hq rfl
      have c2 : wr.cell? ⟨(ad.add (k * 5)).block, (ad.add (k * 5)).off + 2, none⟩ = some (.int .i64 qk) := row_field ruleC_len hrw k 2 (by decide) hq rfl
      have c3 : wr.cell? ⟨(ad.add (k * 5)).block, (ad.add (k * 5)).off + 3, none⟩ = some (.int .i64 qz) := row_field ruleC_len hrw k 3 (by decide) hq rfl
      have c4 : wr.cell? ⟨(ad.add (k * 5)).block, (ad.add (k * 5)).off + 4, none⟩ = some (.int .i64 qa) := row_field ruleC_len hrw k 4 (by decide) hq rfl
      obtain ⟨b, c5, hBb, hdel⟩ := graph_delete HK.out.at_
      obtain ⟨v, hv⟩ : ∃ v, v = wr.alloc (.cells #[.string qs, .string qd, .int .i64 qk, .int .i64 qz, .int .i64 qa] 31) := ⟨_, rfl⟩
      have hxv : Ext wr v := by rw [hv]; exact Ext.alloc wr _
      have hxa : Ext wr v.drew := hxv.trans (Ext.drew _)
      have f1 : v.cell? ⟨wr.heap.size, 1, none⟩ = some (.string qd) := by rw [hv]; exact heap_cell (heap_alloc_new wr _) 1
      have e1 := hxv.cell c5
      obtain ⟨w2, hrun, hg2, hk2, hc2⟩ := hdel qd (by simp only at hsz; omega) _ hxa
      simp only at hls
      rw [hls] at hg2
      have hd2 : GDid B wr w2 g (leftL L G (k + 1)) := ⟨hg2, (Cm.of_ext hxa).trans hc2, Below.trans (hxa.to_below (Nat.le_trans hB HK.out.below.size)) (hk2.to_below hBb (Nat.le_trans hB (Nat.le_trans HK.out.below.size hxa.size))), b, c5, (Kp.of_ext hxa : Kp [b] _ _).and hk2⟩
      have HD2 := Lib.hid hd2
      have HC2 := Lib.hid ((Cm.of_ext hxa).trans hc2)
      have HV := Lib.hid hv
      clear hrw hq hls hdel hg2 hc2 hk2 hxa hxv hv hd2
      go_wp2_with fail
      rw [← HV.out]
      clear HV
      go_still_tail 6, (by kernel_rfl)
      repeat still_step
      change wpList _ _ _ _ _ v.drew
      go_wp2_with fail
      go_roundw
      case rel => exact ⟨k + 1, by omega, by go_num, HK.out.trans HD2.out, HC.out.trans HC2.out⟩
      case measure => simp [intOf]; omega
    · obtain rfl : k = n := by omega
      have hen := HE.out
      rw [HN.out] at hen
      go_wp2_with fail
      go_ret
      exact ⟨by rw [HN.out]; rfl, by rw [← hen]; exact HK.out⟩
end Go.Proofs.Ytdahdghphjlmfaa
