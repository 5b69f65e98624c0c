/- The document's graph: Drop. -/
import Derived.Test.YtdahdghphjlmfaaGrrD
namespace Go.Proofs.Ytdahdghphjlmfaa
open Go.RowKit Sets Gra
set_option linter.unusedVariables false

theorem st5 {w : World} {p t : Nat} {x0 x1 x2 x3 x4 : Value} (h : w.heap[p]? = some (.cells #[x0, x1, x2, x3, x4] t (0, 0))) (a b c d e : Value) :
    ∃ w', ((((w.setCell ⟨p, 0, none⟩ a).setCell ⟨p, 1, none⟩ b).setCell ⟨p, 2, none⟩ c).setCell ⟨p, 3, none⟩ d).setCell ⟨p, 4, none⟩ e = w' ∧ w'.heap[p]? = some (.cells #[a, b, c, d, e] t (0, 0)) ∧ Kp [p] w w' := by
  refine ⟨_, rfl, ?_, ?_⟩
  · have s1 := heap_setCell_same _ p 0 _ _ a h
    have s2 := heap_setCell_same _ p 1 _ _ b s1
    have s3 := heap_setCell_same _ p 2 _ _ c s2
    have s4 := heap_setCell_same _ p 3 _ _ d s3
    exact heap_setCell_same _ p 4 _ _ e s4
  · exact ((((Kp.store _ 0 _ (by simp) : Kp [p] _ _).and (Kp.store _ 1 _ (by simp))).and (Kp.store _ 2 _ (by simp))).and (Kp.store _ 3 _ (by simp))).and (Kp.store _ 4 _ (by simp))
theorem ref_store2 {w w' : World} {B r p : Nat} {x v : Value} {L : List Rule} (hown : w.ownsRow B 38 5 v L.length (L.flatMap ruleC)) (hr : r < B) (hb : w.heap[r]? = some (.cells #[x] 28 (0, 0))) (hk : Kp [p] (w.setCell ⟨r, 0, none⟩ v) w') (hp : p < B) (hpr : p ≠ r) : RefAt w' r L := by
  have s1 := heap_setCell_same w r 0 _ _ v hb
  obtain ⟨A, c, rfl, h1, h2, h3⟩ := own_slice hown
  have hne : ∀ ad, A = some ad → B ≤ ad.block := by
    intro ad e
    subst e
    rcases hown.2 with ⟨h, _⟩ | ⟨g, cap, cur, h, hg, _⟩
    · simp at h
    · simp at h
      obtain ⟨rfl, _⟩ := h
      exact hg
  have h4 := (Kp.store (w := w) (L := [r]) r 0 (.slice A L.length c) (by simp)).rd h3 (fun ad e => by have := hne ad e; simp; omega)
  exact ⟨A, L.length, c, hk.heap s1 (by simpa using Ne.symm hpr), rfl, h1, h2, hk.rd h4 (fun ad e => by have := hne ad e; simp; omega), fun ad e => by have := hne ad e; omega⟩
set_option maxRecDepth 100000 in
set_option maxHeartbeats 8000000 in
theorem rDrop_any (r : Nat) (L : List Rule) (s d : ByteArray) (w : World) (h : RefAt w r L) (hlen : L.length ≤ 100000) (hL : Ok L) :
    Calls Try.prog 16 #[.pointer (some ⟨r, 0, none⟩), .string s, .string d] w fun e w' => e = .returned (.tuple #[ruleV (dropR L s d).1.1, .int .i64 (dropR L s d).1.2]) ∧ RDid w w' r (dropR L s d).2 := by
  obtain ⟨i1, hi1, hz3, hz4, hz5⟩ := info_parts Try.docInfo
  have hrw := ref_lt h
  have HRA := Lib.hid h
  have HOK := Lib.hid hL
  clear h hL
  go_enter Try.func16, Try.ntmps16
  go_upto_region 1 with fail
  have hb6 := heap_alloc_new w (.cells #[.string ⟨#[]⟩, .string ⟨#[]⟩, .int .i64 0, .int .i64 0, .int .i64 0] 38 (0, 0))
  have hx1 := Ext.alloc w (.cells #[.string ⟨#[]⟩, .string ⟨#[]⟩, .int .i64 0, .int .i64 0, .int .i64 0] 38)
  obtain ⟨p, hp⟩ : ∃ p, p = w.heap.size := ⟨_, rfl⟩
  rw [← hp] at hb6
  rw [← hp]
  have HP := Lib.hid hp
  clear hp
  generalize w.alloc (.cells #[.string ⟨#[]⟩, .string ⟨#[]⟩, .int .i64 0, .int .i64 0, .int .i64 0] 38) = w1 at hx1 hb6 ⊢
  have HX := Lib.hid hx1
  have HB6 := Lib.hid hb6
  clear hx1 hb6
  go_wp2_with fail
  refine (rInto_any r L d w1 (HRA.out.ext HX.out)).mono ?_
  rintro e v2 ⟨rfl, hx⟩
  have HX2 := Lib.hid hx
  clear hx
  cases hi : intoL L d with
  | none =>
    have hiv : intoV L d = zeroR := by rw [intoV, hi]; rfl
    have hr : dropR L s d = ((zeroR, 5), L) := by unfold dropR; rw [hi]
    have HD := Lib.hid hr
    rw [hiv, show (none : Option Rule).isSome = false from rfl]
    simp only [ruleV, zeroR]
    clear hi hiv hr
    have hz := ((Kp.of_ext (L := []) (HX2.out.trans (Ext.alloc v2 (.cells #[.string ⟨#[]⟩, .string ⟨#[]⟩, .int .i64 0, .int .i64 0, .int .i64 0] 38)))).heap HB6.out (by simp))
    have HZ := Lib.hid hz
    have HX3 := Lib.hid (HX2.out.trans (Ext.alloc v2 (.cells #[.string ⟨#[]⟩, .string ⟨#[]⟩, .int .i64 0, .int .i64 0, .int .i64 0] 38)))
    have f0 := heap_frozen hz 0
    have f1 := heap_frozen hz 1
    have f2 := heap_frozen hz 2
    have f3 := heap_frozen hz 3
    have f4 := heap_frozen hz 4
    have c0 := heap_cell hz 0
    have c1 := heap_cell hz 1
    have c2 := heap_cell hz 2
    have c3 := heap_cell hz 3
    have c4 := heap_cell hz 4
    clear hz
    go_wp2_with fail
    obtain ⟨w9, e9, h9, k9⟩ := st5 HZ.out (.string ⟨#[]⟩) (.string ⟨#[]⟩) (.int .i64 0) (.int .i64 0) (.int .i64 0)
    rw [e9]
    have q0 := heap_cell h9 0
    have q1 := heap_cell h9 1
    have q2 := heap_cell h9 2
    have q3 := heap_cell h9 3
    have q4 := heap_cell h9 4
    have kk : Kp [] w w9 := (Kp.of_ext (HX.out.trans HX3.out)).trans k9 (fun k hk => by simp at hk; have := HP.out; omega)
    refine bodyPost_ret (v := .tuple #[.agg #[.string ⟨#[]⟩, .string ⟨#[]⟩, .int .i64 0, .int .i64 0, .int .i64 0], .int .i64 5]) (by simp [results, Try.results16, go_sem, q0, q1, q2, q3, q4]) rfl ⟨by rw [HD.out]; rfl, ?_⟩
    rw [HD.out]
    exact RDid.of_ext HRA.out kk.ext
  | some q =>
    have hiv : intoV L d = q := by rw [intoV, hi]; rfl
    obtain ⟨hqm, hqd⟩ := intoL_mem hi
    rw [hiv, show (some q).isSome = true from rfl]
    have hdr : dropR L s d = if q.src ≠ s then ((zeroR, 5), L) else ((q, 0), L.filter fun x => decide (x ≠ q)) := by unfold dropR; rw [hi]
    have HQM := Lib.hid hqm
    have HINJ := Lib.hid (fun (y : Rule) (hy : y ∈ L) (e : y.dst = q.dst) => HOK.out.inj hy hqm e)
    clear hi hiv hqd hqm
    by_cases hsr : q.src = s
    · have HD : Hid (dropR L s d = ((q, 0), L.filter fun x => decide (x ≠ q))) := Lib.hid (by rw [hdr, if_neg (by simpa using hsr)])
      clear hdr
      have HX3 := Lib.hid (HX2.out.trans (Ext.alloc v2 (.cells #[.string q.src, .string q.dst, .int .i64 q.kind, .int .i64 q.size, .int .i64 q.align] 38)))
      have hb8 := heap_alloc_new v2 (.cells #[.string q.src, .string q.dst, .int .i64 q.kind, .int .i64 q.size, .int .i64 q.align] 38 (0, 0))
      obtain ⟨g, hg⟩ : ∃ g, g = v2.heap.size := ⟨_, rfl⟩
      rw [← hg] at hb8
      have HG := Lib.hid hg
      obtain ⟨w3, hw3⟩ : ∃ w3, w3 = v2.alloc (.cells #[.string q.src, .string q.dst, .int .i64 q.kind, .int .i64 q.size, .int .i64 q.align] 38) := ⟨_, rfl⟩
      rw [← hw3] at HX3 hb8
      have HW3 := Lib.hid hw3
      have HB8 := Lib.hid hb8
      have HZ := Lib.hid ((Kp.of_ext (L := []) HX3.out).heap HB6.out (by simp))
      clear hg hw3 hb8
      obtain ⟨A, n, c, hn, hnc, hcm, hrd, hfld⟩ := ref_cells HRA.out
      have hc' : c ≤ 9223372036854775807 := by simpa [maxLen] using hcm
      have HN := Lib.hid hn
      have HR := Lib.hid hrd
      have HFD := Lib.hid (fun (wz : World) (hw : Ext w3 wz) => hfld wz ((HX.out.trans HX3.out).trans hw))
      have hn1 : n ≤ 100000 := by rw [← hn]; exact hlen
      clear hn hrd hfld hcm
      have HC8 := Lib.hid (fun (wz : World) (hw : Ext w3 wz) => rbox_cells (r := q) HB8.out hw)
      obtain ⟨b0, b1, b2, b3, b4⟩ := HC8.out w3 (Ext.refl _)
      have d0 := heap_cell (HFD.out w3 (Ext.refl _)) 0
      obtain ⟨qs, qd, qk, qz, qa⟩ := q
      obtain rfl : qs = s := hsr
      simp only [ruleV]
      rw [HW3.out] at b0 b1 b2 b3 b4 d0
      rw [HG.out] at b0 b1 b2 b3 b4
      go_upto_block 0 with fail
      rw [← HW3.out, ← HG.out]
      clear b0 b1 b2 b3 b4 d0
      have hne : ∀ k, (L.take k).length ≤ k := fun k => by rw [List.length_take]; omega
      have HNE := Lib.hid hne
      clear hne
      go_wp2_with fail
      go_loopw [10, 11] (fun o i wr => ∃ k : Nat, k ≤ n ∧ i = .int .i64 (k : Int) ∧ wr.ownsRow w3.heap.size 38 5 o ((L.take k).filter (fun x => decide (x ≠ ⟨qs, qd, qk, qz, qa⟩))).length (((L.take k).filter (fun x => decide (x ≠ ⟨qs, qd, qk, qz, qa⟩))).flatMap ruleC) ∧ Ext w3 wr) (fun _ i _ => n - (intOf i).toNat)
      case atStart => exact ⟨0, by omega, rfl, World.ownsRow_nil _ _ _ _, Ext.refl _⟩
      case round =>
        obtain ⟨k, hk, rfl, hown, hext⟩ := hrel
        have HO := Lib.hid hown
        have HE := Lib.hid hext
        have HB := Lib.hid hext.size
        have hlf := List.length_filter_le (fun x : Rule => decide (x ≠ ⟨qs, qd, qk, qz, qa⟩)) (L.take k)
        have hlt := HNE.out k
        clear hown hext
        have d0 := heap_cell (HFD.out wr HE.out) 0
        by_cases hkn : k < n
        · have hkI : (k : Int) < (n : Int) := by omega
          have hkJ : (0 : Int) ≤ (k : Int) := by omega
          obtain ⟨y, hy⟩ : ∃ y, L[k]? = some y := ⟨_, List.getElem?_eq_getElem (by have := HN.out; omega)⟩
          obtain ⟨ad, rfl⟩ : ∃ ad, A = some ad := row_some HR.out ruleC_len (by decide) (by have := HN.out; omega)
          obtain ⟨c0, c1, c2, c3, c4⟩ := rule_cells (HR.out.ext ((HX.out.trans HX3.out).trans HE.out)) hy
          have HCY := Lib.hid (rule_cells (HR.out.ext ((HX.out.trans HX3.out).trans HE.out)) hy)
          obtain ⟨b0, b1, b2, b3, b4⟩ := HC8.out wr HE.out
          try dsimp only at b0 b1 b2 b3 b4
          have hnx := filt_next (p := fun x => decide (x ≠ (⟨qs, qd, qk, qz, qa⟩ : Rule))) hy
          have hinj := HINJ.out y (List.mem_of_getElem? hy)
          by_cases he : y = ⟨qs, qd, qk, qz, qa⟩
          · have HI := Lib.hid (hnx.trans (by rw [if_neg (by simpa using he), List.append_nil]))
            clear hnx hinj hy
            subst he
            go_wp2_with fail
            go_quiet (fail)
            go_wp2_with fail
            go_roundw
            case rel => exact ⟨k + 1, by omega, by go_num, by rw [HI.out]; exact own_later HO.out (Ext.drewN _ _), HE.out.trans (Ext.drewN _ _)⟩
            case measure => simp [intOf]; omega
          · have HI := Lib.hid (hnx.trans (by rw [if_pos (by simpa using he)]))
            obtain ⟨ys, yd, yk, yz, ya⟩ := y
            have hyd : ¬ yd = qd := fun e => he (hinj e)
            have e2 : (yd.toList == qd.toList) = false := by rw [eq_dec]; simpa using hyd
            clear hnx hinj hy he hyd
            by_cases hys : ys = qs
            · subst hys
              go_wp2_with fail
              go_quiet (fail)
              have hxq := Ext.drewN nq wr
              generalize wr.drewN nq = v5 at hxq ⊢
              have HO5 := Lib.hid (own_later HO.out hxq)
              have HE5 := Lib.hid (HE.out.trans hxq)
              clear c0 c1 c2 c3 c4 b0 b1 b2 b3 b4 d0
              have c0 := hxq.cell (HCY.out).1
              have c1 := hxq.cell (HCY.out).2.1
              have c2 := hxq.cell (HCY.out).2.2.1
              have c3 := hxq.cell (HCY.out).2.2.2.1
              have c4 := hxq.cell (HCY.out).2.2.2.2
              have d0 := heap_cell (HFD.out v5 HE5.out) 0
              clear hxq
              try dsimp only at c0 c1 c2 c3 c4
              have hx6 : Ext v5 (v5.alloc (.cells #[.string ys, .string yd, .int .i64 yk, .int .i64 yz, .int .i64 ya] 38)) := Ext.alloc _ _
              go_wp2_with (first
                | (at_builtin
                   refine app_row ruleC_len ruleC_one _ rfl (.tmp 45) (.tmp 53) 26 38 rfl i1 (.agg #[.string ByteArray.empty, .string ByteArray.empty, .int .i64 0, .int .i64 0, .int .i64 0]) 56 Try.underlying26 hi1 hz3 hz4 hz5 rfl (by decide) (by decide) w3.heap.size _ _ rfl (by exact own_later HO5.out hx6) (Nat.le_trans HE5.out.size hx6.size) (some ⟨v5.heap.size, 0, none⟩) 1 1 [⟨ys, yd, yk, yz, ya⟩] rfl rfl (by exact Rd.new v5 #[_, _, _, _, _] 38) (by simp only [List.length_singleton]; omega) ?_
                   intro v7 w7 hown7 hchg7
                   have HO7 := Lib.hid hown7
                   have HE7 := Lib.hid (((Chg.of_ext (HE5.out.trans hx6)).trans hchg7).to_ext (Nat.le_refl _))
                   clear hchg7 hown7))
              go_roundw
              case rel => exact ⟨k + 1, by omega, by go_num, by rw [HI.out]; exact HO7.out, HE7.out⟩
              case measure => simp [intOf]; omega
            · have e1 : (ys.toList == qs.toList) = false := by rw [eq_dec]; simpa using hys
              clear hys
              go_wp2_with fail
              go_quiet (fail)
              have hxq := Ext.drewN nq wr
              generalize wr.drewN nq = v5 at hxq ⊢
              have HO5 := Lib.hid (own_later HO.out hxq)
              have HE5 := Lib.hid (HE.out.trans hxq)
              clear c0 c1 c2 c3 c4 b0 b1 b2 b3 b4 d0
              have c0 := hxq.cell (HCY.out).1
              have c1 := hxq.cell (HCY.out).2.1
              have c2 := hxq.cell (HCY.out).2.2.1
              have c3 := hxq.cell (HCY.out).2.2.2.1
              have c4 := hxq.cell (HCY.out).2.2.2.2
              have d0 := heap_cell (HFD.out v5 HE5.out) 0
              clear hxq
              try dsimp only at c0 c1 c2 c3 c4
              have hx6 : Ext v5 (v5.alloc (.cells #[.string ys, .string yd, .int .i64 yk, .int .i64 yz, .int .i64 ya] 38)) := Ext.alloc _ _
              go_wp2_with (first
                | (at_builtin
                   refine app_row ruleC_len ruleC_one _ rfl (.tmp 45) (.tmp 53) 26 38 rfl i1 (.agg #[.string ByteArray.empty, .string ByteArray.empty, .int .i64 0, .int .i64 0, .int .i64 0]) 56 Try.underlying26 hi1 hz3 hz4 hz5 rfl (by decide) (by decide) w3.heap.size _ _ rfl (by exact own_later HO5.out hx6) (Nat.le_trans HE5.out.size hx6.size) (some ⟨v5.heap.size, 0, none⟩) 1 1 [⟨ys, yd, yk, yz, ya⟩] rfl rfl (by exact Rd.new v5 #[_, _, _, _, _] 38) (by simp only [List.length_singleton]; omega) ?_
                   intro v7 w7 hown7 hchg7
                   have HO7 := Lib.hid hown7
                   have HE7 := Lib.hid (((Chg.of_ext (HE5.out.trans hx6)).trans hchg7).to_ext (Nat.le_refl _))
                   clear hchg7 hown7))
              go_roundw
              case rel => exact ⟨k + 1, by omega, by go_num, by rw [HI.out]; exact HO7.out, HE7.out⟩
              case measure => simp [intOf]; omega
        · obtain rfl : k = n := by omega
          have HI : Hid (L.take k = L) := Lib.hid (List.take_of_length_le (by rw [HN.out]; exact Nat.le_refl _))
          have hown := HO.out
          rw [HI.out] at hown
          generalize hm : (L.filter (fun x => decide (x ≠ (⟨qs, qd, qk, qz, qa⟩ : Rule)))).length = m at hown
          have HM := Lib.hid hm
          clear hm HO
          obtain ⟨A9, c9, rfl, _, _, _⟩ := own_slice hown
          have HO := Lib.hid hown
          clear hown hlf
          have f0 := heap_frozen (HFD.out wr HE.out) 0
          have hgr : g ≠ r := by have := HG.out; have := HX2.out.size; have := HX.out.size; omega
          have hpr : p ≠ r := by have := HP.out; omega
          have hgp : g ≠ p := by have := HG.out; have := HX2.out.size; have := (Array.getElem?_eq_some_iff.1 HB6.out).1; omega
          have ks : Kp [r] wr (wr.setCell ⟨r, 0, none⟩ (.slice A9 m c9)) := Kp.store r 0 _ (by simp)
          have hz8 := ks.heap ((Kp.of_ext (L := []) HE.out).heap HB8.out (by simp)) (by simpa using hgr)
          have hz := ks.heap ((Kp.of_ext (L := []) HE.out).heap HZ.out (by simp)) (by simpa using hpr)
          have b0 := heap_cell hz8 0
          have b1 := heap_cell hz8 1
          have b2 := heap_cell hz8 2
          have b3 := heap_cell hz8 3
          have b4 := heap_cell hz8 4
          have HZ4 := Lib.hid hz
          have HKS := Lib.hid ks
          have HST := Lib.hid (fun (w' : World) hk => ref_store2 (w' := w') (p := p) (L := L.filter fun x => decide (x ≠ ⟨qs, qd, qk, qz, qa⟩)) (by rw [HM.out]; exact HO.out) (Nat.lt_of_lt_of_le hrw (HX.out.trans HX3.out).size) (HFD.out wr HE.out) hk (Nat.lt_of_lt_of_le (Array.getElem?_eq_some_iff.1 HB6.out).1 HX3.out.size) hpr)
          clear ks hz8 hgp
          have f0 := heap_frozen hz 0
          have f1 := heap_frozen hz 1
          have f2 := heap_frozen hz 2
          have f3 := heap_frozen hz 3
          have f4 := heap_frozen hz 4
          have c0 := heap_cell hz 0
          have c1 := heap_cell hz 1
          have c2 := heap_cell hz 2
          have c3 := heap_cell hz 3
          have c4 := heap_cell hz 4
          clear hz
          go_wp2_with fail
          obtain ⟨w9, e9, h9, k9⟩ := st5 HZ4.out (.string qs) (.string qd) (.int .i64 qk) (.int .i64 qz) (.int .i64 qa)
          rw [e9]
          have q0 := heap_cell h9 0
          have q1 := heap_cell h9 1
          have q2 := heap_cell h9 2
          have q3 := heap_cell h9 3
          have q4 := heap_cell h9 4
          have hst := HST.out w9 k9
          have kk : Kp [r] w w9 := (((Kp.of_ext (L := [r]) ((HX.out.trans HX3.out).trans HE.out)).and HKS.out)).trans k9 (fun k hk => by simp at hk; have := HP.out; omega)
          refine bodyPost_ret (v := .tuple #[.agg #[.string qs, .string qd, .int .i64 qk, .int .i64 qz, .int .i64 qa], .int .i64 0]) (by simp [results, Try.results16, go_sem, q0, q1, q2, q3, q4]) rfl ⟨by rw [HD.out]; rfl, ?_⟩
          rw [HD.out]
          exact ⟨hst, kk⟩
    · have HD : Hid (dropR L s d = ((zeroR, 5), L)) := Lib.hid (by rw [hdr, if_pos (by simpa using hsr)])
      clear hdr HQM HINJ
      obtain ⟨qs, qd, qk, qz, qa⟩ := q
      simp only [ruleV]
      have e1 : (qs.toList == s.toList) = false := by rw [eq_dec]; simpa using hsr
      have hz := ((Kp.of_ext (L := []) (HX2.out.trans (Ext.alloc v2 (.cells #[.string qs, .string qd, .int .i64 qk, .int .i64 qz, .int .i64 qa] 38)))).heap HB6.out (by simp))
      have HZ := Lib.hid hz
      have HX3 := Lib.hid (HX2.out.trans (Ext.alloc v2 (.cells #[.string qs, .string qd, .int .i64 qk, .int .i64 qz, .int .i64 qa] 38)))
      clear hsr
      have f0 := heap_frozen hz 0
      have f1 := heap_frozen hz 1
      have f2 := heap_frozen hz 2
      have f3 := heap_frozen hz 3
      have f4 := heap_frozen hz 4
      have c0 := heap_cell hz 0
      have c1 := heap_cell hz 1
      have c2 := heap_cell hz 2
      have c3 := heap_cell hz 3
      have c4 := heap_cell hz 4
      clear hz
      go_wp2_with fail
      obtain ⟨w9, e9, h9, k9⟩ := st5 HZ.out (.string ⟨#[]⟩) (.string ⟨#[]⟩) (.int .i64 0) (.int .i64 0) (.int .i64 0)
      rw [e9]
      have q0 := heap_cell h9 0
      have q1 := heap_cell h9 1
      have q2 := heap_cell h9 2
      have q3 := heap_cell h9 3
      have q4 := heap_cell h9 4
      have kk : Kp [] w w9 := (Kp.of_ext (HX.out.trans HX3.out)).trans k9 (fun k hk => by simp at hk; have := HP.out; omega)
      refine bodyPost_ret (v := .tuple #[.agg #[.string ⟨#[]⟩, .string ⟨#[]⟩, .int .i64 0, .int .i64 0, .int .i64 0], .int .i64 5]) (by simp [results, Try.results16, go_sem, q0, q1, q2, q3, q4]) rfl ⟨by rw [HD.out]; rfl, ?_⟩
      rw [HD.out]
      exact RDid.of_ext HRA.out kk.ext
end Go.Proofs.Ytdahdghphjlmfaa
