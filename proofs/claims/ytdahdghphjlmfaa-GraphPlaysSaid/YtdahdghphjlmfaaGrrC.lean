/- The document's graph: Add. -/
import Derived.Test.YtdahdghphjlmfaaGrrB
import Derived.Deep.CutRange
import Derived.Deep.CutBlock
import Derived.Deep.RegionHeld3
namespace Go.Proofs.Ytdahdghphjlmfaa
open Go.RowKit Sets Gra
set_option linter.unusedVariables false

/-- What a call has done to the document's graph. -/
structure RDid (w w' : World) (r : Nat) (L : List Rule) : Prop where
  at_ : RefAt w' r L
  kp : Kp [r] w w'
theorem RDid.of_ext {w w' : World} {r : Nat} {L : List Rule} (h : RefAt w r L) (hx : Ext w w') : RDid w w' r L := ⟨h.ext hx, Kp.of_ext hx⟩
theorem parts_at {α : Type} {L l1 l2 : List α} (h : l1 ++ l2 = L) : L.take l1.length = l1 ∧ L.drop l1.length = l2 := by
  subst h
  simp
theorem ahead_next {L : List Rule} {k : Nat} {r q : Rule} (hk : k ≤ (L.takeWhile fun x => aheadR x r).length) (hq : L[k]? = some q) :
    (aheadR q r = true → k + 1 ≤ (L.takeWhile fun x => aheadR x r).length) ∧ (aheadR q r = false → (L.takeWhile fun x => aheadR x r).length = k) := by
  have hsp := List.takeWhile_append_dropWhile (p := fun x => aheadR x r) (l := L)
  constructor
  · intro ha
    by_cases he : k = (L.takeWhile fun x => aheadR x r).length
    · exfalso
      rw [← hsp, List.getElem?_append_right (by omega), ← he, Nat.sub_self] at hq
      cases hd : L.dropWhile (fun x => aheadR x r) with
      | nil => rw [hd] at hq; simp at hq
      | cons y t =>
        rw [hd] at hq
        simp at hq
        have := dropWhile_head _ _ _ _ hd
        rw [hq, ha] at this
        simp at this
    · omega
  · intro ha
    by_cases he : k = (L.takeWhile fun x => aheadR x r).length
    · exact he.symm
    · exfalso
      have hlt : k < (L.takeWhile fun x => aheadR x r).length := by omega
      rw [← hsp, List.getElem?_append_left hlt] at hq
      have hm := List.mem_of_getElem? hq
      have := takeWhile_all _ _ _ hm
      rw [ha] at this
      simp at this
theorem ins_parts {L : List Rule} {r : Rule} {k : Nat} (h : (L.takeWhile fun x => aheadR x r).length = k) : insR L r = (L.take k ++ [r]) ++ L.drop k := by
  obtain ⟨h1, h2⟩ := parts_at (List.takeWhile_append_dropWhile (p := fun x => aheadR x r) (l := L))
  rw [h] at h1 h2
  rw [h1, h2]
  simp [insR]
theorem while_len (L : List Rule) (r : Rule) : (L.takeWhile fun x => aheadR x r).length ≤ L.length := (List.takeWhile_sublist _).length_le
theorem flat_drop {α : Type} {f : α → List Value} {k : Nat} (hf : ∀ x, (f x).length = k) (xs : List α) (n : Nat) (h : n ≤ xs.length) : (xs.flatMap f).drop (n * k) = (xs.drop n).flatMap f := by
  have e : xs.flatMap f = (xs.take n).flatMap f ++ (xs.drop n).flatMap f := by rw [← List.flatMap_append, List.take_append_drop]
  have hl : ((xs.take n).flatMap f).length = n * k := by rw [flat_length hf, List.length_take, Nat.min_eq_left h]
  rw [e, ← hl, List.drop_left]
/-- The graph's field, set anew. -/
theorem ref_store {w : World} {B r : Nat} {x v : Value} {L : List Rule} (hown : w.ownsRow B 38 5 v L.length (L.flatMap ruleC)) (hr : r < B) (hb : w.heap[r]? = some (.cells #[x] 28 (0, 0))) :
    RefAt (w.setCell ⟨r, 0, none⟩ v) r L := by
  have s1 := heap_setCell_same w r 0 _ _ v hb
  obtain ⟨A, c, rfl, h1, h2, h3⟩ := own_slice hown
  have hne : ∀ ad, A = some ad → ad.block ≠ r := by
    intro ad e
    subst e
    rcases hown.2 with ⟨h, _⟩ | ⟨g, cap, cur, h, hg, _⟩
    · simp at h
    · simp at h
      obtain ⟨rfl, _⟩ := h
      show g ≠ r
      omega
  exact ⟨A, L.length, c, s1, rfl, h1, h2, (Kp.store (L := [r]) r 0 _ (by simp)).rd h3 (fun ad e => by simpa using hne ad e), hne⟩
theorem ref_cells {w : World} {r : Nat} {L : List Rule} (h : RefAt w r L) : ∃ A n c, L.length = n ∧ n ≤ c ∧ c ≤ maxLen ∧ Rd w A (L.flatMap ruleC) ∧ ∀ w', Ext w w' → w'.heap[r]? = some (.cells #[.slice A n c] 28 (0, 0)) := by
  obtain ⟨A, n, c, h1, h2, h3, h4, h5, h6⟩ := h
  exact ⟨A, n, c, h2, h3, h4, h5, fun w' hx => (Kp.of_ext (L := []) hx).heap h1 (by simp)⟩
set_option maxRecDepth 100000 in
set_option maxHeartbeats 8000000 in
theorem rAdd_any (r : Nat) (L : List Rule) (q : Rule) (w : World) (h : RefAt w r L) (hlen : L.length ≤ 100000) (hq : RuleOk q) (hL : ∀ x ∈ L, RuleOk x) :
    Calls Try.prog 13 #[.pointer (some ⟨r, 0, none⟩), ruleV q] w fun e w' => e = .returned (.int .i64 (addR L q).1) ∧ RDid w w' r (addR L q).2 := by
  obtain ⟨i1, hi1, hz3, hz4, hz5⟩ := info_parts Try.docInfo
  have HRA := Lib.hid h
  have hrw : r < w.heap.size := by
    obtain ⟨A, n, c, h1, _⟩ := h
    exact (Array.getElem?_eq_some_iff.1 h1).1
  have HQ := Lib.hid hq
  have HLO := Lib.hid hL
  have a1 : rightR q = false → addR L q = (1, L) := fun h => by simp [addR, h]
  have a2 : rightR q = true → (intoL L q.dst).isSome = true → addR L q = (6, L) := fun h h2 => by unfold addR; rw [if_neg (by simp [h]), if_pos h2]
  have a3 : rightR q = true → (intoL L q.dst).isSome = false → ((intoL L q.src).isSome || decide (0 < (ofL L q.dst).length)) = true → addR L q = (10, L) := fun h h2 h3 => by unfold addR; rw [if_neg (by simp [h]), if_neg (by simp [h2]), if_pos h3]
  have a4 : rightR q = true → (intoL L q.dst).isSome = false → ((intoL L q.src).isSome || decide (0 < (ofL L q.dst).length)) = false → addR L q = (0, insR L q) := fun h h2 h3 => by unfold addR; rw [if_neg (by simp [h]), if_neg (by simp [h2]), if_neg (by simp [h3])]
  have HA1 := Lib.hid a1
  have HA2 := Lib.hid a2
  have HA3 := Lib.hid a3
  have HA4 := Lib.hid a4
  clear h hq hL a1 a2 a3 a4
  obtain ⟨qs, qd, qk, qz, qa⟩ := q
  simp only [ruleV]
  go_enter Try.func13, Try.ntmps13
  go_upto_region 1 with fail
  have hb := heap_alloc_new w (.cells #[.string qs, .string qd, .int .i64 qk, .int .i64 qz, .int .i64 qa] 38 (0, 0))
  have hx1 := Ext.alloc w (.cells #[.string qs, .string qd, .int .i64 qk, .int .i64 qz, .int .i64 qa] 38)
  obtain ⟨p, hp⟩ : ∃ p, p = w.heap.size := ⟨_, rfl⟩
  rw [← hp] at hb
  rw [← hp]
  have HC := Lib.hid (fun (wz : World) (hw : Ext (w.alloc (.cells #[.string qs, .string qd, .int .i64 qk, .int .i64 qz, .int .i64 qa] 38)) wz) => rbox_cells (r := ⟨qs, qd, qk, qz, qa⟩) hb hw)
  generalize w.alloc (.cells #[.string qs, .string qd, .int .i64 qk, .int .i64 qz, .int .i64 qa] 38) = w1 at hx1 HC ⊢
  have HX := Lib.hid hx1
  have HPP := Lib.hid hp
  clear hp
  obtain ⟨c0, c1, c2, c3, c4⟩ := HC.out w1 (Ext.refl _)
  try dsimp only at c0 c1 c2 c3 c4
  clear hb hx1
  go_wp2_with fail
  clear c0 c1 c2 c3 c4
  refine (rRight_any ⟨qs, qd, qk, qz, qa⟩ w1 HQ.out).mono ?_
  rintro e v1 ⟨rfl, hx⟩
  have HX1 := Lib.hid hx
  obtain ⟨c0, c1, c2, c3, c4⟩ := HC.out v1 hx
  try dsimp only at c0 c1 c2 c3 c4
  clear hx
  cases hright : rightR ⟨qs, qd, qk, qz, qa⟩ with
  | false =>
    have HF := Lib.hid (HA1.out hright)
    clear hright
    go_wp2_with fail
    go_ret
    exact ⟨by rw [HF.out]; rfl, by rw [HF.out]; exact RDid.of_ext HRA.out (HX.out.trans HX1.out)⟩
  | true =>
    have HRI := Lib.hid hright
    clear hright
    go_wp2_with fail
    clear c0 c1 c2 c3 c4
    refine (rInto_any r L qd v1 (HRA.out.ext (HX.out.trans HX1.out))).mono ?_
    rintro e v2 ⟨rfl, hx⟩
    have HX2 := Lib.hid (HX1.out.trans hx)
    clear hx
    generalize hiv : intoV L qd = iv
    clear hiv
    obtain ⟨vs, vd, vk, vz, va⟩ := iv
    simp only [ruleV]
    cases htw : (intoL L qd).isSome with
    | true =>
      have HF := Lib.hid (HA2.out HRI.out htw)
      clear htw
      go_wp2_with fail
      go_ret
      exact ⟨by rw [HF.out]; rfl, by rw [HF.out]; exact RDid.of_ext HRA.out ((HX.out.trans HX2.out).trans (Ext.alloc _ _))⟩
    | false =>
      have HTW := Lib.hid htw
      clear htw
      have hx3 := Ext.alloc v2 (.cells #[.string vs, .string vd, .int .i64 vk, .int .i64 vz, .int .i64 va] 38)
      obtain ⟨c0, c1, c2, c3, c4⟩ := HC.out _ (HX2.out.trans hx3)
      try dsimp only at c0 c1 c2 c3 c4
      go_wp2_with fail
      clear c0 c1 c2 c3 c4
      have HX3 := Lib.hid (HX2.out.trans hx3)
      clear hx3
      generalize v2.alloc (.cells #[.string vs, .string vd, .int .i64 vk, .int .i64 vz, .int .i64 va] 38) = v3 at HX3 ⊢
      refine (rInto_any r L qs v3 (HRA.out.ext (HX.out.trans HX3.out))).mono ?_
      rintro e v4 ⟨rfl, hx⟩
      have HX4 := Lib.hid (HX3.out.trans hx)
      clear hx
      generalize hiv : intoV L qs = iv
      clear hiv
      obtain ⟨us, ud, uk, uz, ua⟩ := iv
      simp only [ruleV]
      have hx5 := Ext.alloc v4 (.cells #[.string us, .string ud, .int .i64 uk, .int .i64 uz, .int .i64 ua] 38)
      obtain ⟨c0, c1, c2, c3, c4⟩ := HC.out _ (HX4.out.trans hx5)
      try dsimp only at c0 c1 c2 c3 c4
      cases hmd : (intoL L qs).isSome with
      | true =>
        have HF := Lib.hid (HA3.out HRI.out HTW.out (by rw [hmd]; rfl))
        have HX5 := Lib.hid (HX4.out.trans hx5)
        clear hmd hx5
        go_wp2_with fail
        go_ret
        exact ⟨by rw [HF.out]; rfl, by rw [HF.out]; exact RDid.of_ext HRA.out (HX.out.trans HX5.out)⟩
      | false =>
        have HMD := Lib.hid hmd
        clear hmd
        go_wp2_with fail
        clear c0 c1 c2 c3 c4
        have HX5 := Lib.hid (HX4.out.trans hx5)
        clear hx5
        generalize v4.alloc (.cells #[.string us, .string ud, .int .i64 uk, .int .i64 uz, .int .i64 ua] 38) = v5 at HX5 ⊢
        refine (rOf_any r L qd v5 (HRA.out.ext (HX.out.trans HX5.out)) hlen).mono ?_
        rintro e v6 ⟨u, rfl, hrow, hx⟩
        obtain ⟨A6, n6, c6, rfl, hn6, _, _, _⟩ := hrow
        have HX6 := Lib.hid (HX5.out.trans hx)
        clear hx
        by_cases h6 : 0 < n6
        · have hI : (0 : Int) < (n6 : Int) := by omega
          have HF := Lib.hid (HA3.out HRI.out HTW.out (by rw [HMD.out, hn6]; simpa using h6))
          clear hn6
          go_wp2_with fail
          go_ret
          exact ⟨by rw [HF.out]; rfl, by rw [HF.out]; exact RDid.of_ext HRA.out (HX.out.trans HX6.out)⟩
        · have hI : ¬ (0 : Int) < (n6 : Int) := by omega
          have HF := Lib.hid (HA4.out HRI.out HTW.out (by rw [HMD.out, hn6]; simpa using h6))
          clear hn6
          obtain ⟨A, n, c, hn, hnc, hcm, hrd, hfld⟩ := ref_cells HRA.out
          have hc' : c ≤ 9223372036854775807 := by simpa [maxLen] using hcm
          have HN := Lib.hid hn
          have HR := Lib.hid hrd
          have HFD := Lib.hid (fun (wz : World) (hw : Ext w1 wz) => hfld wz (HX.out.trans hw))
          clear hn hrd hfld
          have hn1 : n ≤ 100000 := by rw [← HN.out]; exact hlen
          go_upto_block 0 with fail
          go_cut [9, 10] from 38 (fun s9 s10 wx => ∃ k : Nat, s10 = .int .i64 (k : Int) ∧ (L.takeWhile fun x => aheadR x ⟨qs, qd, qk, qz, qa⟩).length = k ∧ wx.ownsRow w1.heap.size 38 5 s9 (L.take k).length ((L.take k).flatMap ruleC) ∧ Ext w1 wx)
          case first =>
            go_wp2_with fail
            go_loopw [9, 10] (fun o i wr => ∃ k : Nat, k ≤ (L.takeWhile fun x => aheadR x ⟨qs, qd, qk, qz, qa⟩).length ∧ i = .int .i64 (k : Int) ∧ wr.ownsRow w1.heap.size 38 5 o (L.take k).length ((L.take k).flatMap ruleC) ∧ Ext w1 wr) (fun _ i _ => n - (intOf i).toNat)
            case atStart => exact ⟨0, by omega, rfl, World.ownsRow_nil _ _ _ _, HX6.out⟩
            case round =>
              obtain ⟨k, hk, rfl, hown, hext⟩ := hrel
              have hkl := Nat.le_trans hk (while_len L _)
              rw [HN.out] at hkl
              have HK := Lib.hid hk
              have HO := Lib.hid hown
              have HE := Lib.hid hext
              clear hk hown hext
              by_cases hkn : k < n
              · have hkI : (k : Int) < (n : Int) := by omega
                have hkJ : (0 : Int) ≤ (k : Int) := by omega
                obtain ⟨y, hy⟩ : ∃ y, L[k]? = some y := ⟨_, List.getElem?_eq_getElem (by have := HN.out; omega)⟩
                obtain ⟨ad, rfl⟩ : ∃ ad, A = some ad := row_some HR.out ruleC_len (by decide) (by have := HN.out; omega)
                have HY := Lib.hid (HLO.out y (List.mem_of_getElem? hy))
                have HNX := Lib.hid (ahead_next HK.out hy)
                have HST : Hid (L.take k ++ [y] = L.take (k + 1)) := Lib.hid (by rw [List.take_add_one, hy]; rfl)
                have HLK : Hid ((L.take k).length = k) := Lib.hid (by rw [List.length_take, HN.out]; omega)
                obtain ⟨ys, yd, yk, yz, ya⟩ := y
                have HS := Lib.hid (fun (wz : World) (hw : Ext w1 wz) => (⟨heap_cell (HFD.out wz hw) 0, rule_cells (HR.out.ext (HX.out.trans hw)) hy, HC.out wz hw⟩ : wz.cell? ⟨r, 0, none⟩ = some (.slice (some ad) n c) ∧ (wz.cell? (ad.add (k * 5)) = some (.string ys) ∧ wz.cell? ⟨(ad.add (k * 5)).block, (ad.add (k * 5)).off + 1, none⟩ = some (.string yd) ∧ wz.cell? ⟨(ad.add (k * 5)).block, (ad.add (k * 5)).off + 2, none⟩ = some (.int .i64 yk) ∧ wz.cell? ⟨(ad.add (k * 5)).block, (ad.add (k * 5)).off + 3, none⟩ = some (.int .i64 yz) ∧ wz.cell? ⟨(ad.add (k * 5)).block, (ad.add (k * 5)).off + 4, none⟩ = some (.int .i64 ya)) ∧ (wz.cell? ⟨p, 0, none⟩ = some (.string qs) ∧ wz.cell? ⟨p, 1, none⟩ = some (.string qd) ∧ wz.cell? ⟨p, 2, none⟩ = some (.int .i64 qk) ∧ wz.cell? ⟨p, 3, none⟩ = some (.int .i64 qz) ∧ wz.cell? ⟨p, 4, none⟩ = some (.int .i64 qa))))
                clear hy
                have hs0 := HS.out wr HE.out
                go_upto_region 11 with fail
                go_region_held3 (fun wz => wz.cell? ⟨r, 0, none⟩ = some (.slice (some ad) n c) ∧ (wz.cell? (ad.add (k * 5)) = some (.string ys) ∧ wz.cell? ⟨(ad.add (k * 5)).block, (ad.add (k * 5)).off + 1, none⟩ = some (.string yd) ∧ wz.cell? ⟨(ad.add (k * 5)).block, (ad.add (k * 5)).off + 2, none⟩ = some (.int .i64 yk) ∧ wz.cell? ⟨(ad.add (k * 5)).block, (ad.add (k * 5)).off + 3, none⟩ = some (.int .i64 yz) ∧ wz.cell? ⟨(ad.add (k * 5)).block, (ad.add (k * 5)).off + 4, none⟩ = some (.int .i64 ya)) ∧ (wz.cell? ⟨p, 0, none⟩ = some (.string qs) ∧ wz.cell? ⟨p, 1, none⟩ = some (.string qd) ∧ wz.cell? ⟨p, 2, none⟩ = some (.int .i64 qk) ∧ wz.cell? ⟨p, 3, none⟩ = some (.int .i64 qz) ∧ wz.cell? ⟨p, 4, none⟩ = some (.int .i64 qa))) (first | assumption | exact HS.out _ HE7.out) (first
                  | (go_at_call 29; refine (rAhead_any ⟨ys, yd, yk, yz, ya⟩ ⟨qs, qd, qk, qz, qa⟩ _ HY.out HQ.out).mono ?_; rintro e w7 ⟨rfl, hx7⟩;
                     have HE7 := Lib.hid (HE.out.trans ((Ext.drewN _ wr).trans hx7));
                     have HO7 := Lib.hid (own_later HO.out ((Ext.drewN _ wr).trans hx7));
                     clear hx7))
                obtain ⟨e0, ⟨e1, e2, e3, e4, e5⟩, _⟩ := HS.out w7 HE7.out
                cases haa : aheadR ⟨ys, yd, yk, yz, ya⟩ ⟨qs, qd, qk, qz, qa⟩ with
                | true =>
                  have HKK := Lib.hid (HNX.out.1 haa)
                  clear haa hs0
                  have hx6 : Ext w7 (w7.alloc (.cells #[.string ys, .string yd, .int .i64 yk, .int .i64 yz, .int .i64 ya] 38)) := Ext.alloc _ _
                  have hww : w1.heap.size ≤ w7.heap.size := HE7.out.size
                  go_wp2_with (first
                    | (at_builtin
                       refine app_row ruleC_len ruleC_one _ rfl (.tmp 56) (.tmp 64) 26 38 rfl i1 (.agg #[.string ByteArray.empty, .string ByteArray.empty, .int .i64 0, .int .i64 0, .int .i64 0]) 56 Try.underlying26 hi1 hz3 hz4 hz5 rfl (by decide) (by decide) w1.heap.size _ (L.take k) rfl (by exact own_later HO7.out hx6) (Nat.le_trans hww hx6.size) (some ⟨w7.heap.size, 0, none⟩) 1 1 [⟨ys, yd, yk, yz, ya⟩] rfl rfl (by exact Rd.new w7 #[_, _, _, _, _] 38) (by have := HLK.out; simp only [List.length_singleton]; omega) ?_
                       intro v8 w8 hown8 hchg8
                       have HO8 := Lib.hid hown8
                       have HE8 : Hid (Ext w1 w8) := Lib.hid (((Chg.of_ext (HE7.out.trans hx6)).trans hchg8).to_ext (Nat.le_refl _))
                       clear hchg8 hown8))
                  go_roundw
                  case rel => exact ⟨k + 1, HKK.out, by go_num, by rw [← HST.out]; exact HO8.out, HE8.out⟩
                  case measure => simp [intOf]; omega
                | false =>
                  have HKK := Lib.hid (HNX.out.2 haa)
                  clear haa hs0
                  go_wp2_with fail
                  go_meet
                  exact ⟨k, rfl, HKK.out, HO7.out, HE7.out⟩
              · obtain rfl : k = n := by omega
                have hI : ¬ (k : Int) < (k : Int) := by omega
                have d0 := heap_cell (HFD.out wr HE.out) 0
                have HKK : Hid ((L.takeWhile fun x => aheadR x ⟨qs, qd, qk, qz, qa⟩).length = k) := Lib.hid (by have := while_len L ⟨qs, qd, qk, qz, qa⟩; have := HK.out; have := HN.out; omega)
                go_wp2_with fail
                go_quiet (fail)
                go_wp2_with fail
                go_meet
                exact ⟨k, rfl, HKK.out, own_later HO.out (Ext.drewN _ _), HE.out.trans (Ext.drewN _ _)⟩
          case rest =>
            obtain ⟨k, rfl, hkw, hown, hx⟩ := hcut
            have hkl := while_len L ⟨qs, qd, qk, qz, qa⟩
            rw [hkw, HN.out] at hkl
            have HI := Lib.hid (ins_parts hkw)
            have HO := Lib.hid hown
            have HE := Lib.hid hx
            have HLK : Hid ((L.take k).length = k) := Lib.hid (by rw [List.length_take, HN.out]; omega)
            have HLD : Hid ((L.drop k).length = n - k) := Lib.hid (by rw [List.length_drop, HN.out])
            obtain ⟨A2, hA2, hsl2⟩ := cut_from (P := Try.prog) 26 38 i1 5 Try.underlying26 hi1 hz4 HR.out (by rw [flat_length ruleC_len, HN.out]) hnc k (k : Int) rfl hkl
            rw [flat_drop ruleC_len _ _ (by rw [HN.out]; exact hkl)] at hA2
            have HR2 := Lib.hid hA2
            clear hkw hown hx hA2
            obtain ⟨c0, c1, c2, c3, c4⟩ := HC.out wc HE.out
            try dsimp only at c0 c1 c2 c3 c4
            have hx6 : Ext wc (wc.alloc (.cells #[.string qs, .string qd, .int .i64 qk, .int .i64 qz, .int .i64 qa] 38)) := Ext.alloc _ _
            have hww : w1.heap.size ≤ wc.heap.size := HE.out.size
            go_wp2_with (first
              | (at_builtin
                 refine app_row ruleC_len ruleC_one _ rfl (.tmp 68) (.tmp 70) 26 38 rfl i1 (.agg #[.string ByteArray.empty, .string ByteArray.empty, .int .i64 0, .int .i64 0, .int .i64 0]) 56 Try.underlying26 hi1 hz3 hz4 hz5 rfl (by decide) (by decide) w1.heap.size _ (L.take k) rfl (by exact own_later HO.out hx6) (Nat.le_trans hww hx6.size) (some ⟨wc.heap.size, 0, none⟩) 1 1 [⟨qs, qd, qk, qz, qa⟩] rfl rfl (by exact Rd.new wc #[_, _, _, _, _] 38) (by have := HLK.out; simp only [List.length_singleton]; omega) ?_
                 intro v8 w8 hown8 hchg8
                 have HO8 := Lib.hid hown8
                 have HE8 : Hid (Ext w1 w8) := Lib.hid (((Chg.of_ext (HE.out.trans hx6)).trans hchg8).to_ext (Nat.le_refl _))
                 have d0 := heap_cell (HFD.out w8 HE8.out) 0
                 clear hchg8 hown8)
              | (at_builtin
                 refine app_row ruleC_len ruleC_one _ rfl (.tmp 72) (.tmp 78) 26 38 rfl i1 (.agg #[.string ByteArray.empty, .string ByteArray.empty, .int .i64 0, .int .i64 0, .int .i64 0]) 56 Try.underlying26 hi1 hz3 hz4 hz5 rfl (by decide) (by decide) w1.heap.size v8 (L.take k ++ [⟨qs, qd, qk, qz, qa⟩]) rfl HO8.out HE8.out.size A2 (n - k) (c - k) (L.drop k) rfl HLD.out (HR2.out.ext (HX.out.trans HE8.out)) (by have := HLK.out; have := HLD.out; simp only [List.length_append, List.length_singleton]; omega) ?_
                 intro v9 w9 hown9 hchg9
                 generalize hn9 : (L.take k ++ [(⟨qs, qd, qk, qz, qa⟩ : Rule)] ++ L.drop k).length = n9 at hown9
                 obtain ⟨A9, c9, rfl, _, _, _⟩ := own_slice hown9
                 have HN9 := Lib.hid hn9
                 clear hn9
                 have HO9 := Lib.hid hown9
                 have HE9 : Hid (Ext w1 w9) := Lib.hid (((Chg.of_ext HE8.out).trans hchg9).to_ext (Nat.le_refl _))
                 have f0 := heap_frozen (HFD.out w9 HE9.out) 0
                 have d1 := heap_cell (HFD.out w9 HE9.out) 0
                 clear hchg9 hown9))
            go_ret
            have hst := ref_store (by rw [HN9.out]; exact HO9.out) (Nat.lt_of_lt_of_le hrw HX.out.size) (HFD.out w9 HE9.out)
            refine ⟨by rw [HF.out]; rfl, ?_⟩
            rw [HF.out, HI.out]
            exact ⟨hst, (Kp.of_ext (HX.out.trans HE9.out)).and (Kp.store r 0 _ (by simp))⟩
end Go.Proofs.Ytdahdghphjlmfaa
