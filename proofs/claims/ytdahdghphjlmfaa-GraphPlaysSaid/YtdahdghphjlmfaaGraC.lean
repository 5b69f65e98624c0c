/- The walk of package graph's Copy. -/
import Derived.Test.YtdahdghphjlmfaaGraG
namespace Go.Proofs.Ytdahdghphjlmfaa
open Go.RowKit Sets Gra
set_option linter.unusedVariables false

/-- Putting a rule into a graph's map. -/
theorem graph_update {B g : Nat} {w : World} {L : List Rule} (h : GraphAt B w g L) : ∃ b, w.cell? ⟨g, 0, none⟩ = some (.map (some b)) ∧ B ≤ b ∧
    ∀ (r : Rule) (L' : List Rule) (hs : r.dst.size ≤ 9223372036854775807) (hi : intoL L r.dst = none) (hp : L'.Perm (r :: L)) (hok : Ok L') (w1 : World) (hw : Ext w w1),
      ∃ w2, (Instr.mapUpdate 60 (.map (some b)) (.string r.dst) (ruleV r)).run Try.prog w1 = .ok () w2 ∧ GraphAt B w2 g L' ∧ Kp [b] w1 w2 ∧ Cm w1 w2 := by
  obtain ⟨b, l, h1, h2, h3, h4, h5, h6⟩ := h
  refine ⟨b, heap_cell h1 0, h4, fun r L' hs hi hp hok w1 hw => ?_⟩
  have hm1 := h2.ext hw
  obtain ⟨w2, hrun, hm2, hk⟩ := hm1.update Try.strK Try.underlying60 r.dst (ruleV r) hs
  have hcm := Cm.of_map hk hm1
  have hl : lkp l r.dst = none := by rw [graph_lkp h3 h2.nodup h6, hi]; rfl
  refine ⟨w2, hrun, ⟨b, _, hcm.cells _ _ _ _ ((Kp.of_ext (L := []) hw).heap h1 (by simp)), hm2, ?_, h4, h5, hok⟩, hk, hcm⟩
  unfold putL
  rw [hl]
  simp only [Option.isSome_none, Bool.false_eq_true, if_false]
  refine List.Perm.trans ?_ (hp.map _).symm
  refine (List.perm_append_comm).trans ?_
  exact List.Perm.cons _ h3
theorem ok_take {L : List Rule} (h : Ok L) (k : Nat) : Ok (L.take k) :=
  ⟨h.sorted.sublist (List.take_sublist k L), h.nodup.sublist ((List.take_sublist k L).map _), fun r hr => h.right r (List.mem_of_mem_take hr), fun r hr q hq => h.flat r (List.mem_of_mem_take hr) q (List.mem_of_mem_take hq)⟩
theorem take_into {L : List Rule} (h : Ok L) (k : Nat) (r : Rule) (hr : L[k]? = some r) : intoL (L.take k) r.dst = none := by
  cases hi : intoL (L.take k) r.dst with
  | none => rfl
  | some q =>
    obtain ⟨h1, h2⟩ := intoL_mem hi
    have hrm := List.mem_of_getElem? hr
    have e := h.inj (List.mem_of_mem_take h1) hrm h2
    subst e
    have hs := h.sorted
    have hs2 := ok_take h (k + 1)
    have hsp := hs2.sorted
    rw [List.take_add_one, hr, List.pairwise_append] at hsp
    exact absurd (hsp.2.2 q h1 q (by simp)) (Lt.irrefl q)
theorem take_perm {L : List Rule} (k : Nat) (r : Rule) (hr : L[k]? = some r) : (L.take (k + 1)).Perm (r :: L.take k) := by
  rw [List.take_add_one, hr]
  exact List.perm_append_comm

set_option maxHeartbeats 1000000 in
theorem copy_any (B g : Nat) (L : List Rule) (w : World) (h : GraphAt B w g L) (hlen : L.length ≤ 100000) :
    Calls Try.prog 19 #[.pointer (some ⟨g, 0, none⟩)] w fun e w' => ∃ c, e = .returned (.pointer (some ⟨c, 0, none⟩)) ∧ GraphAt w.heap.size w' c L ∧ Ext w w' := by
  have H := Lib.hid h
  have HOK := Lib.hid h.ok
  clear h
  go_enter Try.func19, Try.ntmps19
  go_wp2_with fail
  refine (new_any w).mono ?_
  rintro e w1 ⟨g2, rfl, hg, hx⟩
  have HG1 := Lib.hid hg
  have HX1 := Lib.hid hx
  have H1 := Lib.hid (H.out.ext hx)
  clear hg hx H
  go_wp2_with fail
  refine (all_any B g L w1 H1.out hlen).mono ?_
  rintro e w2 ⟨v, rfl, hr, hx⟩
  obtain ⟨A, n, c, rfl, hn, hnc, hcm, hr⟩ := hr
  have HR := Lib.hid hr
  have HN := Lib.hid hn
  have HG2 := Lib.hid (HG1.out.ext hx)
  have HX2 := Lib.hid (HX1.out.trans hx)
  clear hr hn hx H1 HG1 HX1
  have hn1 : n ≤ 100000 := by rw [← HN.out]; omega
  go_wp2_with fail
  go_loopw [12] (fun i wr => ∃ k : Nat, k ≤ n ∧ i = .int .i64 (k : Int) ∧ GraphAt w.heap.size wr g2 (L.take k) ∧ Cm w2 wr ∧ Ext w wr) (fun i _ => n - (intOf i).toNat)
  case atStart => exact ⟨0, by omega, rfl, HG2.out, Cm.refl _, HX2.out⟩
  case round =>
    obtain ⟨k, hk, rfl, hg, hcm1, hext⟩ := hrel
    have HK := Lib.hid hg
    have HC := Lib.hid hcm1
    have HX := Lib.hid hext
    clear hg hcm1 hext
    by_cases hkn : k < n
    · obtain ⟨q, hq⟩ : ∃ q, L[k]? = some q := ⟨_, List.getElem?_eq_getElem (by have := HN.out; omega)⟩
      obtain ⟨ad, rfl⟩ : ∃ ad, A = some ad := row_some HR.out ruleC_len (by decide) (by have := HN.out; omega)
      have hrw := HC.out.rd HR.out
      have hsz := ok_dst HOK.out (List.mem_of_getElem? hq)
      have hti := take_into HOK.out k q hq
      have htp := take_perm k q hq
      have htk := ok_take HOK.out (k + 1)
      obtain ⟨b, c5, hBb, hup⟩ := graph_update HK.out
      obtain ⟨v, hv⟩ : ∃ v, v = wr.alloc (.cells #[.string q.src, .string q.dst, .int .i64 q.kind, .int .i64 q.size, .int .i64 q.align] 31) := ⟨_, rfl⟩
      have hxv : Ext wr v := by rw [hv]; exact Ext.alloc wr _
      have hxa : Ext wr v.drew := hxv.trans (Ext.drew _)
      obtain ⟨w3, hrun, hg2, hk2, hc2⟩ := hup q (L.take (k + 1)) (by omega) hti htp htk _ hxa
      obtain ⟨qs, qd, qk, qz, qa⟩ := q
      simp only [ruleV] at hrun hv
      have c0 : wr.cell? (ad.add (k * 5)) = some (.string qs) := row_cell ruleC_len hrw k 0 hq rfl
      have c1 : wr.cell? ⟨(ad.add (k * 5)).block, (ad.add (k * 5)).off + 1, none⟩ = some (.string qd) := row_field ruleC_len hrw k 1 (by decide) hq rfl
      have c2 : wr.cell? ⟨(ad.add (k * 5)).block, (ad.add (k * 5)).off + 2, none⟩ = some (.int .i64 qk) := row_field ruleC_len hrw k 2 (by decide) hq rfl
      have c3 : wr.cell? ⟨(ad.add (k * 5)).block, (ad.add (k * 5)).off + 3, none⟩ = some (.int .i64 qz) := row_field ruleC_len hrw k 3 (by decide) hq rfl
      have c4 : wr.cell? ⟨(ad.add (k * 5)).block, (ad.add (k * 5)).off + 4, none⟩ = some (.int .i64 qa) := row_field ruleC_len hrw k 4 (by decide) hq rfl
      have hvh : v.heap[wr.heap.size]? = some (.cells #[.string qs, .string qd, .int .i64 qk, .int .i64 qz, .int .i64 qa] 31) := by rw [hv]; exact heap_alloc_new wr _
      have f0 : v.cell? ⟨wr.heap.size, 0, none⟩ = some (.string qs) := heap_cell hvh 0
      have f1 : v.cell? ⟨wr.heap.size, 1, none⟩ = some (.string qd) := heap_cell hvh 1
      have f2 : v.cell? ⟨wr.heap.size, 2, none⟩ = some (.int .i64 qk) := heap_cell hvh 2
      have f3 : v.cell? ⟨wr.heap.size, 3, none⟩ = some (.int .i64 qz) := heap_cell hvh 3
      have f4 : v.cell? ⟨wr.heap.size, 4, none⟩ = some (.int .i64 qa) := heap_cell hvh 4
      have e1 := hxv.cell c5
      have HG3 := Lib.hid hg2
      have HC3 := Lib.hid (HC.out.trans ((Cm.of_ext hxa).trans hc2))
      have HX3 := Lib.hid (hk2.to_ext (HX.out.trans hxa) (by intro j hj; simp at hj; subst hj; exact hBb))
      have HV := Lib.hid hv
      clear hrw hq hup hg2 hc2 hk2 hxa hxv hv hvh hti htp htk hsz
      go_wp2_with fail
      rw [← HV.out]
      clear HV
      go_still_tail 7, (by kernel_rfl)
      repeat still_step
      change wpList _ _ _ _ _ v.drew
      go_wp2_with fail
      go_roundw
      case rel => exact ⟨k + 1, by omega, by go_num, HG3.out, HC3.out, HX3.out⟩
      case measure => simp [intOf]; omega
    · obtain rfl : k = n := by omega
      have hg := HK.out
      rw [List.take_of_length_le (by rw [HN.out]; exact Nat.le_refl _)] at hg
      have HG := Lib.hid hg
      clear hg
      go_wp2_with fail
      go_ret
      exact ⟨g2, rfl, HG.out, HX.out⟩
end Go.Proofs.Ytdahdghphjlmfaa
