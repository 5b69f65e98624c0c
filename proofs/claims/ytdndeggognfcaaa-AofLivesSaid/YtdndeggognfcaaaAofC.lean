/- The document's log: Open, Append, Sync, Rewrite. -/
import Derived.Test.YtdndeggognfcaaaAofB
namespace Go.Proofs.Ytdndeggognfcaaa
open Go.RowKit Crc Fil
set_option linter.unusedVariables false
set_option linter.unusedSectionVars false
set_option linter.unusedSimpArgs false
set_option maxRecDepth 100000


/-- The document's log at block rl: its row rv, its file at rg. -/
structure RLogC (w : World) (rl rg : Nat) (rv : Value) (s : LSt) : Prop where
  blk : w.heap[rl]? = some (.cells #[.pointer (some ⟨rg, 0, none⟩), rv, .int .i64 (s.sure : Int), .bool s.halted] 58 (0, 0))
  own : w.ownsRow 0 9 1 rv s.l.length (s.l.map .string)
  file : RefAt w rg s.t
def rb (rl rg : Nat) (rv : Value) : List Nat := rl :: rg :: rv.ownBlock.toList
theorem mem_rb {rl rg k : Nat} {rv : Value} : k ∈ rb rl rg rv ↔ k = rl ∨ k = rg ∨ rv.ownBlock = some k := by
  unfold rb
  simp [List.mem_cons, Option.mem_toList]
def RDid (w w' : World) (rl rg : Nat) (rv : Value) (s : LSt) : Prop := ∃ rv', RLogC w' rl rg rv' s ∧ Kp (rb rl rg rv) w w' ∧ Sub w (rb rl rg rv) (rb rl rg rv')
section
variable {w w' w'' : World} {rl rg : Nat} {rv : Value} {s : LSt}
theorem RLogC.rl_rg (h : RLogC w rl rg rv s) : rl ≠ rg := blocks_ne h.blk h.file (by decide)
theorem RLogC.rl_row (h : RLogC w rl rg rv s) : ∀ k, rv.ownBlock = some k → k ≠ rl := fun k hk => by
  obtain ⟨c, f, h1⟩ := own_at h.own k hk
  exact blocks_ne h1 h.blk (by decide)
theorem RLogC.rg_row (h : RLogC w rl rg rv s) : ∀ k, rv.ownBlock = some k → k ≠ rg := fun k hk => by
  obtain ⟨c, f, h1⟩ := own_at h.own k hk
  exact blocks_ne h1 h.file (by decide)
theorem RLogC.nob (h : RLogC w rl rg rv s) : NoB w (rb rl rg rv) := fun k hk c f hc => by
  rcases mem_rb.1 hk with rfl | rfl | hk
  · exact blocks_ne hc h.blk (by decide) rfl
  · exact blocks_ne hc h.file (by decide) rfl
  · obtain ⟨c', f', h1⟩ := own_at h.own k hk
    exact blocks_ne hc h1 (by decide) rfl
theorem RLogC.lts (h : RLogC w rl rg rv s) : ∀ k ∈ rb rl rg rv, k < w.heap.size := fun k hk => by
  rcases mem_rb.1 hk with rfl | rfl | hk
  · exact (Array.getElem?_eq_some_iff.1 h.blk).1
  · exact (Array.getElem?_eq_some_iff.1 h.file).1
  · obtain ⟨c', f', h1⟩ := own_at h.own k hk
    exact (Array.getElem?_eq_some_iff.1 h1).1
theorem RLogC.kp {K : List Nat} (h : RLogC w rl rg rv s) (hk : Kp K w w') (hd : ∀ k ∈ rb rl rg rv, k ∉ K) : RLogC w' rl rg rv s :=
  ⟨hk.heap h.blk (hd rl (mem_rb.2 (.inl rfl))), own_kp h.own hk (fun k e => hd k (mem_rb.2 (.inr (.inr e)))), h.file.kp hk (hd rg (mem_rb.2 (.inr (.inl rfl))))⟩
theorem RLogC.ext (h : RLogC w rl rg rv s) (hx : Ext w w') : RLogC w' rl rg rv s := h.kp (K := []) (Kp.of_ext hx) (by simp)
theorem RDid.same (h : RLogC w rl rg rv s) : RDid w w rl rg rv s := ⟨rv, h, Kp.refl _ _, Sub.refl _ _⟩
/-- The file alone. -/
theorem RLogC.filed {t' : St} (h : RLogC w rl rg rv s) (hk : Kp [rg] w w') (hf : RefAt w' rg t') : RLogC w' rl rg rv { s with t := t' } :=
  ⟨hk.heap h.blk (by simpa using h.rl_rg), own_kp h.own hk (fun k e => by simpa using h.rg_row k e), hf⟩
def RStep (w w' : World) (rl rg : Nat) (rv rv' : Value) : Prop := Kp (rb rl rg rv) w w' ∧ Sub w (rb rl rg rv) (rb rl rg rv')
theorem RStep.refl (w : World) (rl rg : Nat) (rv : Value) : RStep w w rl rg rv rv := ⟨Kp.refl _ _, Sub.refl _ _⟩
theorem RStep.trans {r1 r2 : Value} (h : RStep w w' rl rg rv r1) (k : RStep w' w'' rl rg r1 r2) : RStep w w'' rl rg rv r2 :=
  ⟨h.1.trans k.1 h.2, h.2.trans k.2 h.1.size⟩
theorem RStep.ext (hx : Ext w w') : RStep w w' rl rg rv rv := ⟨Kp.of_ext hx, Sub.refl _ _⟩
theorem RStep.file (hk : Kp [rg] w w') : RStep w w' rl rg rv rv := ⟨hk.mono (by intro k hk; simp at hk; exact mem_rb.2 (.inr (.inl hk))), Sub.refl _ _⟩
theorem RStep.word (i : Nat) (u : Value) : RStep w (w.setCell ⟨rl, i, none⟩ u) rl rg rv rv := ⟨(Kp.store rl i u (by simp) : Kp [rl] _ _).mono (by intro k hk; simp at hk; exact mem_rb.2 (.inl hk)), Sub.refl _ _⟩
theorem RStep.row {rv' : Value} (hk : Kp (rl :: rv.ownBlock.toList) w w') (hs : ∀ k, rv'.ownBlock = some k → rv.ownBlock = some k ∨ w.heap.size ≤ k) : RStep w w' rl rg rv rv' :=
  ⟨hk.mono (by intro k hk; simp at hk; rcases hk with h | h; exact mem_rb.2 (.inl h); exact mem_rb.2 (.inr (.inr h))), fun k hk => by
    rcases mem_rb.1 hk with h | h | h
    · exact .inl (mem_rb.2 (.inl h))
    · exact .inl (mem_rb.2 (.inr (.inl h)))
    · exact (hs k h).imp (fun h => mem_rb.2 (.inr (.inr h))) id⟩
theorem RStep.did {rv' : Value} (h : RStep w w' rl rg rv rv') (hc : RLogC w' rl rg rv' s) : RDid w w' rl rg rv s := ⟨rv', hc, h.1, h.2⟩
theorem RLogC.cells (h : RLogC w rl rg rv s) : w.cell? ⟨rl, 0, none⟩ = some (.pointer (some ⟨rg, 0, none⟩)) ∧ w.cell? ⟨rl, 1, none⟩ = some rv ∧ w.cell? ⟨rl, 2, none⟩ = some (.int .i64 (s.sure : Int)) ∧ w.cell? ⟨rl, 3, none⟩ = some (.bool s.halted) :=
  ⟨heap_cell h.blk 0, heap_cell h.blk 1, heap_cell h.blk 2, heap_cell h.blk 3⟩
/-- A word of the log. -/
theorem RLogC.worded {n : Nat} {b : Bool} (h : RLogC w rl rg rv s) (i : Nat) (u : Value) (hi : (#[.pointer (some ⟨rg, 0, none⟩), rv, .int .i64 (s.sure : Int), .bool s.halted] : Array Value).setIfInBounds i u = #[.pointer (some ⟨rg, 0, none⟩), rv, .int .i64 (n : Int), .bool b]) :
    RLogC (w.setCell ⟨rl, i, none⟩ u) rl rg rv { s with sure := n, halted := b } := by
  have hk2 : Kp [rl] w (w.setCell ⟨rl, i, none⟩ u) := Kp.store rl i _ (by simp)
  have hst := heap_setCell_same w rl i _ 58 u h.blk
  rw [hi] at hst
  exact ⟨hst, own_kp h.own hk2 (fun k e => by simpa using h.rl_row k e), h.file.kp hk2 (by simpa using fun e => h.rl_rg e.symm)⟩
/-- The log's row. -/
theorem RLogC.rowed {rv' : Value} {l' : List ByteArray} (h : RLogC w rl rg rv s) (ha : Appended w w' 0 9 1 rv rv' l'.length (l'.map .string)) :
    RLogC (w'.setCell ⟨rl, 1, none⟩ rv') rl rg rv' { s with l := l' } ∧ Kp (rl :: rv.ownBlock.toList) w (w'.setCell ⟨rl, 1, none⟩ rv') ∧ ∀ k, rv'.ownBlock = some k → rv.ownBlock = some k ∨ w.heap.size ≤ k := by
  have hk := ap_kp ha
  have hb := hk.heap h.blk (by simp; intro e; exact h.rl_row _ e rfl)
  have hf := h.file.kp hk (by simp; intro e; exact h.rg_row _ e rfl)
  have hk2 : Kp [rl] w' (w'.setCell ⟨rl, 1, none⟩ rv') := Kp.store rl 1 _ (by simp)
  have hst := heap_setCell_same w' rl 1 _ 58 rv' hb
  have hrow : ∀ k, rv'.ownBlock = some k → k ≠ rl := fun k e => by
    obtain ⟨c, f, h1⟩ := own_at ha.own k e
    exact blocks_ne h1 hb (by decide)
  refine ⟨⟨hst, own_kp ha.own hk2 (fun k e => by simpa using hrow k e), hf.kp hk2 (by simpa using fun e => h.rl_rg e.symm)⟩, ?_, ?_⟩
  · exact (hk.mono (fun k hk => by simp at hk ⊢; exact .inr hk)).trans hk2 (fun k hk => .inl (by simp at hk; simp [hk]))
  · intro k e
    rcases ha.lies with h1 | h1
    · exact .inl (by rw [← h1]; exact e)
    · rw [e] at h1
      injection h1 with h1
      exact .inr (by omega)
theorem RLogC.newrow {rv' : Value} {l' : List ByteArray} (h : RLogC w rl rg rv s) (hx : Ext w w') (ho : w'.ownsRow 0 9 1 rv' l'.length (l'.map .string)) (hnew : ∀ k, rv'.ownBlock = some k → w.heap.size ≤ k) :
    RLogC (w'.setCell ⟨rl, 1, none⟩ rv') rl rg rv' { s with l := l' } ∧ RStep w (w'.setCell ⟨rl, 1, none⟩ rv') rl rg rv rv' := by
  have h1 := h.ext hx
  have hk2 : Kp [rl] w' (w'.setCell ⟨rl, 1, none⟩ rv') := Kp.store rl 1 _ (by simp)
  have hst := heap_setCell_same w' rl 1 _ 58 rv' h1.blk
  have hlt := h.lts rl (mem_rb.2 (.inl rfl))
  refine ⟨⟨hst, own_kp ho hk2 (fun k e => by have := hnew k e; simp; omega), h1.file.kp hk2 (by simpa using fun e => h.rl_rg e.symm)⟩, ?_, ?_⟩
  · exact ((Kp.of_ext (L := [rl]) hx).trans hk2 (Sub.refl _ _)).mono (by intro k hk; simp at hk; exact mem_rb.2 (.inl hk))
  · intro k hk
    rcases mem_rb.1 hk with h | h | h
    · exact .inl (mem_rb.2 (.inl h))
    · exact .inl (mem_rb.2 (.inr (.inl h)))
    · exact .inr (hnew k h)
end
set_option maxHeartbeats 4000000 in
theorem rlSync_any (rl rg : Nat) (rv : Value) (s : LSt) (w : World) (h : RLogC w rl rg rv s) (hok : s.t.Ok) (hl : s.l.length ≤ 4294967296) :
    Calls Try.prog 30 #[.pointer (some ⟨rl, 0, none⟩)] w fun e w' => e = .returned (.int .i64 (syncL s).1) ∧ RDid w w' rl rg rv (syncL s).2 := by
  obtain ⟨c0, c1, c2, c3⟩ := h.cells
  by_cases hh : s.halted = true
  · have hr : syncL s = (12, s) := if_pos hh
    rw [hr]
    rw [hh] at c3
    have HD := Lib.hid (RDid.same h)
    clear h
    go_enter Try.func30, Try.ntmps30
    go_wp2_with fail
    go_ret
    exact ⟨rfl, HD.out⟩
  · have hr : syncL s = (0, { s with sure := s.l.length, t := syncT s.t }) := if_neg hh
    rw [hr]
    have hhf : s.halted = false := by simpa using hh
    obtain ⟨A, c, rfl⟩ := own_len h.own
    have f2 := heap_frozen h.blk 2
    have HC1 := Lib.hid (h.worded (n := s.l.length) (b := s.halted) 2 (.int .i64 (s.l.length : Int)) rfl)
    have HS1 : Hid (RStep w (w.setCell ⟨rl, 2, none⟩ (.int .i64 (s.l.length : Int))) rl rg (.slice A s.l.length c) (.slice A s.l.length c)) := Lib.hid (RStep.word 2 _)
    have HOK := Lib.hid hok
    rw [hhf] at c3
    clear h hr hh hok hhf
    go_enter Try.func30, Try.ntmps30
    go_upto_region 4 with fail
    clear c0 c1 c2 c3 f2
    generalize w.setCell ⟨rl, 2, none⟩ (.int .i64 (s.l.length : Int)) = w1 at HC1 HS1 ⊢
    obtain ⟨c0, c1, c2, c3⟩ := HC1.out.cells
    go_wp2_with fail
    refine (rSync_any rg s.t w1 HC1.out.file HOK.out.text.1).mono ?_
    rintro e w2 ⟨rfl, hk2, hf2⟩
    have HD := Lib.hid ((HS1.out.trans (RStep.file hk2)).did (HC1.out.filed hk2 hf2))
    clear c0 c1 c2 c3 hk2 hf2
    go_wp2_with fail
    go_ret
    exact ⟨rfl, HD.out⟩
set_option maxHeartbeats 4000000 in
theorem rlAppend_any (rl rg : Nat) (rv : Value) (s : LSt) (x : ByteArray) (w : World) (h : RLogC w rl rg rv s) (hok : s.t.Ok) (hx : x.size ≤ 9223372036854775807) (hl : s.l.length ≤ 4294967296) :
    Calls Try.prog 29 #[.pointer (some ⟨rl, 0, none⟩), .string x] w fun e w' => e = .returned (.int .i64 (appL s x).1) ∧ RDid w w' rl rg rv (appL s x).2 := by
  obtain ⟨i0, hi0, hz0, hz1, hz2⟩ := info_parts Try.strInfo
  obtain ⟨c0, c1, c2, c3⟩ := h.cells
  by_cases hh : s.halted = true
  · have hr : appL s x = (12, s) := if_pos hh
    rw [hr]
    rw [hh] at c3
    have HD := Lib.hid (RDid.same h)
    clear h
    go_enter Try.func29, Try.ntmps29
    go_wp2_with fail
    go_ret
    exact ⟨rfl, HD.out⟩
  · have hhf : s.halted = false := by simpa using hh
    have HH := Lib.hid h
    have HOK := Lib.hid hok
    rw [hhf] at c3
    by_cases hg : good x.toList
    · have hem : (bs (frm x.toList)).toList.isEmpty = false := by rw [frm_empty, decide_eq_true hg]; rfl
      have hfz : (bs (frm x.toList)).size ≤ 140737488351232 := by
        rw [bs_size, frm_len hg, size_list]
        unfold good at hg
        rw [size_list] at hg
        omega
      have HR : Hid (appL s x = if s.t.s.size + (bs (frm x.toList)).size > 16777216 then (13, s) else (0, { s with t := (appendR s.t (bs (frm x.toList))).2, l := s.l ++ [x] })) := Lib.hid (by unfold appL; rw [if_neg hh, if_neg (by simpa using hg)])
      clear h hok hg hh hhf
      go_enter Try.func29, Try.ntmps29
      go_wp2_with fail
      refine (rFrame_any x w hx).mono ?_
      rintro e w1 ⟨rfl, hx1⟩
      have HC1 := Lib.hid (HH.out.ext hx1)
      have HS1 : Hid (RStep w w1 rl rg rv rv) := Lib.hid (RStep.ext hx1)
      clear c0 c1 c2 c3 hx1
      have HF := Lib.hid (fun w => rFrame_any x w hx)
      generalize bs (frm x.toList) = fr at hem hfz HR HF ⊢
      obtain ⟨c0, c1, c2, c3⟩ := HC1.out.cells
      go_upto_region 5 with fail
      refine wp_region_held_drew (S := fun wz => wz.cell? ⟨rl, 0, none⟩ = some (.pointer (some ⟨rg, 0, none⟩))) (by kernel_rfl) c0 (fun hHeld => ?_)
      have hxt : Ext w1 w1.drew := Ext.drew _
      generalize w1.drew = v2 at hxt hHeld ⊢
      refine' wpAnyH_take (i := 0) (oi := _) (v := _) ?hi1 ?hs1 ?hf1 ?hr1 ?hQ1 (Or.inl ⟨?hw1, ?hy1⟩) (by assumption) ?hrest1
      case hi1 => simp only [List.getElem?_toArray]; rfl
      case hs1 => kernel_rfl
      case hf1 => kernel_rfl
      case hr1 => kernel_rfl
      case hQ1 => exact fun _ _ _ h => h
      case hw1 => rfl
      case hy1 => intro w hSw; (try dsimp only at hSw); go_simp; try with_reducible rfl
      try simp only [Act.put, List.setIfInBounds_toArray, List.set_cons_zero, List.set_cons_succ]
      refine' wpAnyH_take (i := 1) (oi := _) (v := _) ?hi2 ?hs2 ?hf2 ?hr2 ?hQ2 (Or.inl ⟨?hw2, ?hy2⟩) (by assumption) ?hrest2
      case hi2 => simp only [List.getElem?_toArray]; rfl
      case hs2 => kernel_rfl
      case hf2 => kernel_rfl
      case hr2 => kernel_rfl
      case hQ2 => exact fun _ _ _ h => h
      case hw2 => rfl
      case hy2 => intro w hSw; (try dsimp only at hSw); go_simp; try with_reducible rfl
      try simp only [Act.put, List.setIfInBounds_toArray, List.set_cons_zero, List.set_cons_succ]
      refine' wpAnyH_take (i := 2) (oi := _) (v := _) ?hi3 ?hs3 ?hf3 ?hr3 ?hQ3 (Or.inl ⟨?hw3, ?hy3⟩) (by assumption) ?hrest3
      case hi3 => simp only [List.getElem?_toArray]; rfl
      case hs3 => kernel_rfl
      case hf3 => kernel_rfl
      case hr3 => kernel_rfl
      case hQ3 => exact fun _ _ _ h => h
      case hw3 => rfl
      case hy3 => intro w hSw; (try dsimp only at hSw); go_simp; try with_reducible rfl
      try simp only [Act.put, List.setIfInBounds_toArray, List.set_cons_zero, List.set_cons_succ]
      refine' wpAnyH_take (i := 3) (oi := _) (v := _) ?hi4 ?hs4 ?hf4 ?hr4 ?hQ4 (Or.inl ⟨?hw4, ?hy4⟩) (by assumption) ?hrest4
      case hi4 => simp only [List.getElem?_toArray]; rfl
      case hs4 => kernel_rfl
      case hf4 => kernel_rfl
      case hr4 => kernel_rfl
      case hQ4 => exact fun _ _ _ h => h
      case hw4 => rfl
      case hy4 => intro w hSw; (try dsimp only at hSw); go_simp; try with_reducible rfl
      try simp only [Act.put, List.setIfInBounds_toArray, List.set_cons_zero, List.set_cons_succ]
      refine' wpAnyH_take (i := 4) (oi := _) (v := _) ?hi5 ?hs5 ?hf5 ?hr5 ?hQ5 (Or.inl ⟨?hw5, ?hy5⟩) (by assumption) ?hrest5
      case hi5 => simp only [List.getElem?_toArray]; rfl
      case hs5 => kernel_rfl
      case hf5 => kernel_rfl
      case hr5 => kernel_rfl
      case hQ5 => exact fun _ _ _ h => h
      case hw5 => rfl
      case hy5 => intro w hSw; (try dsimp only at hSw); go_simp; try with_reducible rfl
      try simp only [Act.put, List.setIfInBounds_toArray, List.set_cons_zero, List.set_cons_succ]
      refine wpAnyH_ready (rs := [5]) (by kernel_rfl) (by simp) ?_
      refine' AllReadyH.cons (o := _) ?ho6 (fun K hK => ?hstep6) AllReadyH.nil
      case ho6 => simp only [List.getElem?_toArray]; rfl
      go_simp
      refine (HF.out v2).mono ?_
      rintro e w3 ⟨rfl, hx3⟩
      have HC3 := Lib.hid (HC1.out.ext (hxt.trans hx3))
      have HS3 := Lib.hid (HS1.out.trans (RStep.ext (hxt.trans hx3)))
      refine hK.out _ _ (HC3.out.cells.1) (fun hHeld => ?_)
      clear hK K
      try simp only [Act.put, List.setIfInBounds_toArray, List.set_cons_zero, List.set_cons_succ]
      refine wpAnyH_ready (rs := [6]) (by kernel_rfl) (by simp) ?_
      refine' AllReadyH.cons (o := _) ?ho8 (fun K hK => ?hstep8) AllReadyH.nil
      case ho8 => simp only [List.getElem?_toArray]; rfl
      go_simp
      refine (rAppend_any rg s.t fr w3 HC3.out.file HOK.out.text.1 hfz).mono ?_
      rintro e w4 ⟨rfl, hk4, hf4⟩
      have HC4 := Lib.hid (HC3.out.filed hk4 hf4)
      have HS4 := Lib.hid (HS3.out.trans (RStep.file hk4))
      refine hK.out _ _ (HC4.out.cells.1) (fun hHeld => ?_)
      clear hK K
      try simp only [Act.put, List.setIfInBounds_toArray, List.set_cons_zero, List.set_cons_succ]
      refine' wpAnyH_take (i := 7) (oi := _) (v := _) ?hi10 ?hs10 ?hf10 ?hr10 ?hQ10 (Or.inl ⟨?hw10, ?hy10⟩) (by assumption) ?hrest10
      case hi10 => simp only [List.getElem?_toArray]; rfl
      case hs10 => kernel_rfl
      case hf10 => kernel_rfl
      case hr10 => kernel_rfl
      case hQ10 => exact fun _ _ _ h => h
      case hw10 => rfl
      case hy10 => intro w hSw; (try dsimp only at hSw); go_simp; try with_reducible rfl
      try simp only [Act.put, List.setIfInBounds_toArray, List.set_cons_zero, List.set_cons_succ]
      refine wpAnyH_done (by kernel_rfl) ?_ _
      clear c0 c1 c2 c3 hHeld hxt hx3 hk4 hf4 HC1 HS1 HC3 HS3 HF
      by_cases hbig : s.t.s.size + fr.size > 16777216
      · have hap : appendR s.t fr = (13, s.t) := if_pos hbig
        have hr : appL s x = (13, s) := by rw [HR.out, if_pos hbig]
        rw [hap] at HC4 ⊢
        have HRR := Lib.hid hr
        have HD : Hid (RDid w w4 rl rg rv s) := Lib.hid (HS4.out.did HC4.out)
        clear hap hr hbig
        go_wp2_with fail
        go_ret
        rw [HRR.out]
        exact ⟨rfl, HD.out⟩
      · have hap : (appendR s.t fr).1 = 0 := by unfold appendR; rw [if_neg hbig]
        have hr : appL s x = (0, { s with t := (appendR s.t fr).2, l := s.l ++ [x] }) := by rw [HR.out, if_neg hbig]
        rw [hap]
        have HRR := Lib.hid hr
        generalize (appendR s.t fr).2 = t2 at HC4 HRR ⊢
        clear hap hr hbig
        obtain ⟨c0, c1, c2, c3⟩ := HC4.out.cells
        go_wp2_with (first
          | (at_builtin
             have HC3 := Lib.hid (HC4.out.ext (Ext.alloc w4 (.cells #[.string x] 9)))
             refine wpList_append_rd (P := Try.prog) _ rfl (.tmp 26) (.tmp 28) 34 rfl 0 9 i0 (.string ByteArray.empty) 1 16 Try.underlying34 hi0 hz0 hz1 hz2 rfl (by decide) rv s.l.length _ rfl (by exact HC3.out.own) (some ⟨w4.heap.size, 0, none⟩) 1 1 [.string x] rfl rfl (by exact Rd.new w4 #[_] 9) (by intro u hu; simp at hu; subst hu; rfl) (by simp only [maxLen]; omega) (by omega) (Nat.zero_le _) ?_
             intro v5 w5 happ
             obtain ⟨A4, n4, k4, rfl⟩ := own_shape happ.own
             have happ' : Appended (w4.alloc (.cells #[.string x] 9)) w5 0 9 1 rv (.slice A4 n4 k4) (s.l ++ [x]).length ((s.l ++ [x]).map .string) := by rw [List.length_append, List.map_append]; exact happ
             have HR4 := Lib.hid (HC3.out.rowed happ')
             have hb4 := (ap_kp happ').heap HC3.out.blk (by simp; intro e; exact HC3.out.rl_row _ e rfl)
             clear c0 c1 c2 c3 happ happ'
             have c1 := heap_cell hb4 1
             have f1 := heap_frozen hb4 1
             clear hb4))
        go_ret
        rw [HRR.out]
        exact ⟨rfl, ((HS4.out.trans (RStep.ext (Ext.alloc w4 _))).trans (RStep.row HR4.out.2.1 HR4.out.2.2)).did HR4.out.1⟩
    · have hr : appL s x = (1, s) := by unfold appL; rw [if_neg hh, if_pos hg]
      rw [hr]
      have hem : (bs (frm x.toList)).toList.isEmpty = true := by rw [frm_empty, decide_eq_false hg]; rfl
      clear h hok hr hh hhf
      go_enter Try.func29, Try.ntmps29
      go_wp2_with fail
      refine (rFrame_any x w hx).mono ?_
      rintro e w1 ⟨rfl, hx1⟩
      have HD := Lib.hid ((RStep.ext hx1).did (HH.out.ext hx1))
      clear c0 c1 c2 c3 hx1
      generalize bs (frm x.toList) = fr at hem ⊢
      go_wp2_with fail
      go_ret
      exact ⟨rfl, HD.out⟩
end Go.Proofs.Ytdndeggognfcaaa
