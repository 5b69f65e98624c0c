/- The walks of package aof: the log. -/
import Derived.Test.YtdndeggognfcaaaAofV
import Derived.Test.YtdndeggognfcaaaFilV
namespace Go.Proofs.Ytdndeggognfcaaa
open Go.RowKit Crc Fil
set_option linter.unusedVariables false
set_option linter.unusedSectionVars false
set_option linter.unusedSimpArgs false
set_option maxRecDepth 100000

structure LSt where
  g : Nat
  t : St
  l : List ByteArray
  sure : Nat
  halted : Bool
/-- The log at block lg: its table at tb, its row rv, its file's blocks L. -/
structure LogC (w : World) (lg tb : Nat) (rv : Value) (L : List Nat) (s : LSt) : Prop where
  blk : w.heap[lg]? = some (.cells #[.pointer (some ⟨s.g, 0, none⟩), .pointer (some ⟨tb, 0, none⟩), rv, .int .i64 (s.sure : Int), .bool s.halted] 47 (0, 0))
  tab : TabAt w tb
  own : w.ownsRow 0 9 1 rv s.l.length (s.l.map .string)
  file : FileAt w s.g L s.t
def bl (lg tb : Nat) (rv : Value) (L : List Nat) : List Nat := lg :: tb :: (rv.ownBlock.toList ++ L)
def LDid (w w' : World) (lg tb : Nat) (rv : Value) (L : List Nat) (s : LSt) : Prop := ∃ rv' L', LogC w' lg tb rv' L' s ∧ Kp (bl lg tb rv L) w w' ∧ Sub w (bl lg tb rv L) (bl lg tb rv' L')
theorem mem_bl {lg tb k : Nat} {rv : Value} {L : List Nat} : k ∈ bl lg tb rv L ↔ k = lg ∨ k = tb ∨ rv.ownBlock = some k ∨ k ∈ L := by
  unfold bl
  simp [List.mem_cons, List.mem_append, Option.mem_toList]
theorem own_kp {w w' : World} {base e size n : Nat} {v : Value} {xs : List Value} {K : List Nat} (h : w.ownsRow base e size v n xs) (hk : Kp K w w') (hn : ∀ k, v.ownBlock = some k → k ∉ K) : w'.ownsRow base e size v n xs := by
  refine ⟨h.1, ?_⟩
  rcases h.2 with h0 | ⟨g, cap, cur, rfl, hb, hh, r⟩
  · exact .inl h0
  · exact .inr ⟨g, cap, cur, rfl, hb, hk.heap hh (hn g rfl), r⟩
theorem own_at {w : World} {base e size n : Nat} {v : Value} {xs : List Value} (h : w.ownsRow base e size v n xs) : ∀ k, v.ownBlock = some k → ∃ c f, w.heap[k]? = some (.cells c e f) := by
  intro k hk
  rcases h.2 with ⟨rfl, _⟩ | ⟨g, cap, cur, rfl, hb, hh, _⟩
  · simp [Value.ownBlock] at hk
  · simp [Value.ownBlock] at hk
    subst hk
    exact ⟨cur, _, hh⟩
theorem own_base {w : World} {base e size n : Nat} {v : Value} {xs : List Value} (h : w.ownsRow base e size v n xs) : w.ownsRow 0 e size v n xs := by
  refine ⟨h.1, ?_⟩
  rcases h.2 with h0 | ⟨g, cap, cur, rfl, hb, r⟩
  · exact .inl h0
  · exact .inr ⟨g, cap, cur, rfl, Nat.zero_le _, r⟩
theorem own_new {w : World} {base e size n : Nat} {v : Value} {xs : List Value} (h : w.ownsRow base e size v n xs) : ∀ k, v.ownBlock = some k → base ≤ k := by
  intro k hk
  rcases h.2 with ⟨rfl, _⟩ | ⟨g, cap, cur, rfl, hb, _⟩
  · simp [Value.ownBlock] at hk
  · simp [Value.ownBlock] at hk
    omega
theorem own_shape {w : World} {base e size n : Nat} {v : Value} {xs : List Value} (h : w.ownsRow base e size v n xs) : ∃ A m c, v = .slice A m c := by
  rcases h.2 with ⟨rfl, _⟩ | ⟨g, cap, cur, rfl, _⟩ <;> exact ⟨_, _, _, rfl⟩
theorem ap_kp {w w' : World} {base e size n : Nat} {v v' : Value} {xs : List Value} (h : Appended w w' base e size v v' n xs) : Kp (v.ownBlock.toList) w w' :=
  ⟨h.grown.os, h.grown.tape, h.grown.output, h.grown.size, fun k hk hn => h.grown.block k hk (fun e => hn (by rw [← e]; simp))⟩
section
variable {w w' w'' : World} {lg tb : Nat} {rv : Value} {L : List Nat} {s s' : LSt}
theorem LogC.lg_tb (h : LogC w lg tb rv L s) : lg ≠ tb := by
  obtain ⟨cs, hb, _⟩ := h.tab
  exact blocks_ne h.blk hb (by decide)
theorem LogC.lg_row (h : LogC w lg tb rv L s) : ∀ k, rv.ownBlock = some k → k ≠ lg := fun k hk => by
  obtain ⟨c, f, h1⟩ := own_at h.own k hk
  exact blocks_ne h1 h.blk (by decide)
theorem LogC.tb_row (h : LogC w lg tb rv L s) : ∀ k, rv.ownBlock = some k → k ≠ tb := fun k hk => by
  obtain ⟨c, f, h1⟩ := own_at h.own k hk
  obtain ⟨cs, hb, _⟩ := h.tab
  exact blocks_ne h1 hb (by decide)
theorem LogC.lg_file (h : LogC w lg tb rv L s) : lg ∉ L := h.file.other h.blk (by decide) (by decide)
theorem LogC.tb_file (h : LogC w lg tb rv L s) : tb ∉ L := by
  obtain ⟨cs, hb, _⟩ := h.tab
  exact h.file.other hb (by decide) (by decide)
theorem LogC.row_file (h : LogC w lg tb rv L s) : ∀ k, rv.ownBlock = some k → k ∉ L := fun k hk => by
  obtain ⟨c, f, h1⟩ := own_at h.own k hk
  exact h.file.other h1 (by decide) (by decide)
theorem LogC.nob (h : LogC w lg tb rv L s) : NoB w (bl lg tb rv L) := fun k hk c f hc => by
  rcases mem_bl.1 hk with rfl | rfl | hk | hk
  · exact blocks_ne hc h.blk (by decide) rfl
  · obtain ⟨cs, hb, _⟩ := h.tab
    exact blocks_ne hc hb (by decide) rfl
  · obtain ⟨c', f', h1⟩ := own_at h.own k hk
    exact blocks_ne hc h1 (by decide) rfl
  · exact h.file.nob k hk c f hc
theorem LogC.lts (h : LogC w lg tb rv L s) : ∀ k ∈ bl lg tb rv L, k < w.heap.size := fun k hk => by
  rcases mem_bl.1 hk with rfl | rfl | hk | hk
  · exact (Array.getElem?_eq_some_iff.1 h.blk).1
  · obtain ⟨cs, hb, _⟩ := h.tab
    exact (Array.getElem?_eq_some_iff.1 hb).1
  · obtain ⟨c', f', h1⟩ := own_at h.own k hk
    exact (Array.getElem?_eq_some_iff.1 h1).1
  · exact h.file.lt k hk
theorem NoB.sub {K K' : List Nat} (h : NoB w K) (hs : ∀ k ∈ K', k ∈ K) : NoB w K' := fun k hk => h k (hs k hk)
theorem LogC.kp {K : List Nat} (h : LogC w lg tb rv L s) (hk : Kp K w w') (hn : NoB w K) (hd : ∀ k ∈ bl lg tb rv L, k ∉ K) : LogC w' lg tb rv L s :=
  ⟨hk.heap h.blk (hd lg (mem_bl.2 (.inl rfl))), h.tab.kp hk (hd tb (mem_bl.2 (.inr (.inl rfl)))), own_kp h.own hk (fun k e => hd k (mem_bl.2 (.inr (.inr (.inl e))))), h.file.kp hk hn (fun k hm => hd k (mem_bl.2 (.inr (.inr (.inr hm)))))⟩
theorem LogC.ext (h : LogC w lg tb rv L s) (hx : Ext w w') : LogC w' lg tb rv L s := h.kp (K := []) (Kp.of_ext hx) (by intro k hk; simp at hk) (by simp)
theorem LogC.txt (h : LogC w lg tb rv L s) (hl : s.l.length ≤ 9223372036854775807) : Txt w rv s.l := by
  rcases h.own.2 with ⟨rfl, hn⟩ | ⟨g, cap, cur, rfl, hb, hh, hc, hm, hz, ht⟩
  · have : s.l = [] := List.eq_nil_of_length_eq_zero hn
    rw [this]
    exact (Own.nil w w).txt
  · refine ⟨_, _, _, rfl, rfl, hc, by simpa [maxLen] using hm, fun hne => ⟨_, rfl, fun j u hu => ?_⟩⟩
    rw [add_at, heap_cell hh]
    rw [Nat.mul_one] at ht
    have h2 := hu
    rw [← ht, List.getElem?_take] at h2
    split at h2
    · rw [← Array.getElem?_toList]; exact h2
    · simp at h2
theorem LDid.same (h : LogC w lg tb rv L s) : LDid w w lg tb rv L s := ⟨rv, L, h, Kp.refl _ _, Sub.refl _ _⟩
/-- The table alone. -/
theorem LogC.tabbed (h : LogC w lg tb rv L s) (hk : Kp [tb] w w') (ht : TabAt w' tb) : LogC w' lg tb rv L s :=
  ⟨hk.heap h.blk (by simpa using h.lg_tb), ht, own_kp h.own hk (fun k e => by simpa using h.tb_row k e), h.file.kp hk (h.nob.sub (by intro k hk; simp at hk; exact mem_bl.2 (.inr (.inl hk)))) (fun k hm hk => by simp at hk; exact h.tb_file (hk ▸ hm))⟩
/-- The file alone. -/
theorem LogC.filed {t' : St} (h : LogC w lg tb rv L s) (hd : Did w w' s.g L t') : ∃ L', LogC w' lg tb rv L' { s with t := t' } ∧ Kp L w w' ∧ Sub w L L' := by
  obtain ⟨hk, L', hf, hs⟩ := hd
  exact ⟨L', ⟨hk.heap h.blk h.lg_file, h.tab.kp hk h.tb_file, own_kp h.own hk h.row_file, hf⟩, hk, hs⟩
/-- The log's row. -/
theorem LogC.rowed {rv' : Value} {l' : List ByteArray} (h : LogC w lg tb rv L s) (ha : Appended w w' 0 9 1 rv rv' l'.length (l'.map .string)) :
    LogC (w'.setCell ⟨lg, 2, none⟩ rv') lg tb rv' L { s with l := l' } ∧ Kp (lg :: rv.ownBlock.toList) w (w'.setCell ⟨lg, 2, none⟩ rv') ∧ ∀ k, rv'.ownBlock = some k → rv.ownBlock = some k ∨ w.heap.size ≤ k := by
  have hk := ap_kp ha
  have hnr : NoB w rv.ownBlock.toList := h.nob.sub (fun k hk => mem_bl.2 (.inr (.inr (.inl (by simpa using hk)))))
  have hb := hk.heap h.blk (by simp; intro e; exact h.lg_row _ e rfl)
  have ht := h.tab.kp hk (by simp; intro e; exact h.tb_row _ e rfl)
  have hf := h.file.kp hk hnr (fun k hm hk => h.row_file k (by simpa using hk) hm)
  have hk2 : Kp [lg] w' (w'.setCell ⟨lg, 2, none⟩ rv') := Kp.store lg 2 _ (by simp)
  have hst := heap_setCell_same w' lg 2 _ 47 rv' hb
  have hrow : ∀ k, rv'.ownBlock = some k → k ≠ lg := fun k e => by
    obtain ⟨c, f, h1⟩ := own_at ha.own k e
    exact blocks_ne h1 hb (by decide)
  refine ⟨⟨hst, ht.kp hk2 (by simpa using fun e => h.lg_tb e.symm), own_kp ha.own hk2 (fun k e => by simpa using hrow k e), hf.kp hk2 (nob_of hb (by decide)) (fun k hm hk => by simp at hk; exact h.lg_file (hk ▸ hm))⟩, ?_, ?_⟩
  · exact (hk.mono (fun k hk => by simp at hk ⊢; exact .inr hk)).trans hk2 (fun k hk => .inl (by simp at hk; simp [hk]))
  · intro k e
    rcases ha.lies with h1 | h1
    · exact .inl (by rw [← h1]; exact e)
    · rw [e] at h1
      injection h1 with h1
      exact .inr (by omega)
/-- A word of the log. -/
theorem LogC.worded {n : Nat} {b : Bool} (h : LogC w lg tb rv L s) (i : Nat) (u : Value) (hi : (#[.pointer (some ⟨s.g, 0, none⟩), .pointer (some ⟨tb, 0, none⟩), rv, .int .i64 (s.sure : Int), .bool s.halted] : Array Value).setIfInBounds i u = #[.pointer (some ⟨s.g, 0, none⟩), .pointer (some ⟨tb, 0, none⟩), rv, .int .i64 (n : Int), .bool b]) :
    LogC (w.setCell ⟨lg, i, none⟩ u) lg tb rv L { s with sure := n, halted := b } := by
  have hk2 : Kp [lg] w (w.setCell ⟨lg, i, none⟩ u) := Kp.store lg i _ (by simp)
  have hst := heap_setCell_same w lg i _ 47 u h.blk
  rw [hi] at hst
  exact ⟨hst, h.tab.kp hk2 (by simpa using fun e => h.lg_tb e.symm), own_kp h.own hk2 (fun k e => by simpa using h.lg_row k e), h.file.kp hk2 (nob_of h.blk (by decide)) (fun k hm hk => by simp at hk; exact h.lg_file (hk ▸ hm))⟩
/-- What a step may have changed of the log. -/
def LStep (w w' : World) (lg tb : Nat) (rv : Value) (L : List Nat) (rv' : Value) (L' : List Nat) : Prop := Kp (bl lg tb rv L) w w' ∧ Sub w (bl lg tb rv L) (bl lg tb rv' L')
theorem LStep.refl (w : World) (lg tb : Nat) (rv : Value) (L : List Nat) : LStep w w lg tb rv L rv L := ⟨Kp.refl _ _, Sub.refl _ _⟩
theorem LStep.trans {r1 r2 : Value} {L1 L2 : List Nat} (h : LStep w w' lg tb rv L r1 L1) (k : LStep w' w'' lg tb r1 L1 r2 L2) : LStep w w'' lg tb rv L r2 L2 :=
  ⟨h.1.trans k.1 h.2, h.2.trans k.2 h.1.size⟩
theorem LStep.tab (hk : Kp [tb] w w') : LStep w w' lg tb rv L rv L := ⟨hk.mono (by intro k hk; simp at hk; exact mem_bl.2 (.inr (.inl hk))), Sub.refl _ _⟩
theorem LStep.ext (hx : Ext w w') : LStep w w' lg tb rv L rv L := ⟨Kp.of_ext hx, Sub.refl _ _⟩
theorem LStep.file {L' : List Nat} (hk : Kp L w w') (hs : Sub w L L') : LStep w w' lg tb rv L rv L' :=
  ⟨hk.mono (fun k hk => mem_bl.2 (.inr (.inr (.inr hk)))), fun k hk => by
    rcases mem_bl.1 hk with h | h | h | h
    · exact .inl (mem_bl.2 (.inl h))
    · exact .inl (mem_bl.2 (.inr (.inl h)))
    · exact .inl (mem_bl.2 (.inr (.inr (.inl h))))
    · exact (hs k h).imp (fun h => mem_bl.2 (.inr (.inr (.inr h)))) id⟩
theorem LStep.row {rv' : Value} (hk : Kp (lg :: rv.ownBlock.toList) w w') (hs : ∀ k, rv'.ownBlock = some k → rv.ownBlock = some k ∨ w.heap.size ≤ k) : LStep w w' lg tb rv L rv' L :=
  ⟨hk.mono (by intro k hk; simp at hk; exact mem_bl.2 (hk.imp id (fun h => .inr (.inl h)))), fun k hk => by
    rcases mem_bl.1 hk with h | h | h | h
    · exact .inl (mem_bl.2 (.inl h))
    · exact .inl (mem_bl.2 (.inr (.inl h)))
    · exact (hs k h).imp (fun h => mem_bl.2 (.inr (.inr (.inl h)))) id
    · exact .inl (mem_bl.2 (.inr (.inr (.inr h))))⟩
theorem LStep.word (i : Nat) (u : Value) : LStep w (w.setCell ⟨lg, i, none⟩ u) lg tb rv L rv L := ⟨(Kp.store lg i u (by simp) : Kp [lg] _ _).mono (by intro k hk; simp at hk; exact mem_bl.2 (.inl hk)), Sub.refl _ _⟩
theorem LStep.did {rv' : Value} {L' : List Nat} (h : LStep w w' lg tb rv L rv' L') (hc : LogC w' lg tb rv' L' s) : LDid w w' lg tb rv L s := ⟨rv', L', hc, h.1, h.2⟩
theorem LogC.cells (h : LogC w lg tb rv L s) : w.cell? ⟨lg, 0, none⟩ = some (.pointer (some ⟨s.g, 0, none⟩)) ∧ w.cell? ⟨lg, 1, none⟩ = some (.pointer (some ⟨tb, 0, none⟩)) ∧ w.cell? ⟨lg, 2, none⟩ = some rv ∧ w.cell? ⟨lg, 3, none⟩ = some (.int .i64 (s.sure : Int)) ∧ w.cell? ⟨lg, 4, none⟩ = some (.bool s.halted) :=
  ⟨heap_cell h.blk 0, heap_cell h.blk 1, heap_cell h.blk 2, heap_cell h.blk 3, heap_cell h.blk 4⟩
end
theorem state_any' (lg tb : Nat) (rv : Value) (L : List Nat) (s : LSt) (w : World) (h : LogC w lg tb rv L s) :
    Calls Try.prog 40 #[.pointer (some ⟨lg, 0, none⟩)] w fun e w' => e = .returned (.int .i64 (if s.halted = true then 12 else 0)) ∧ w = w' := by
  obtain ⟨c0, c1, c2, c3, c4⟩ := h.cells
  clear h
  obtain ⟨g, t, l, sure, hal⟩ := s
  dsimp only at *
  cases hal with
  | true =>
    go_enter Try.func40, Try.ntmps40
    go_wp2_with fail
    go_ret
    exact ⟨rfl, rfl⟩
  | false =>
    go_enter Try.func40, Try.ntmps40
    go_wp2_with fail
    go_ret
    exact ⟨rfl, rfl⟩
/-- What Append answers, and leaves. -/
def appL (s : LSt) (x : ByteArray) : Int × LSt :=
  if s.halted = true then (12, s) else if ¬ good x.toList then (1, s) else
  if s.t.s.size + (bs (frm x.toList)).size > 16777216 then (13, s) else (0, { s with t := (appendR s.t (bs (frm x.toList))).2, l := s.l ++ [x] })
set_option maxHeartbeats 4000000 in
theorem lappend_any (lg tb : Nat) (rv : Value) (L : List Nat) (s : LSt) (x : ByteArray) (w : World) (h : LogC w lg tb rv L s) (hok : s.t.Ok) (hx : x.size ≤ 9223372036854775807) (hl : s.l.length ≤ 4294967296) :
    Calls Try.prog 18 #[.pointer (some ⟨lg, 0, none⟩), .string x] w fun e w' => e = .returned (.int .i64 (appL s x).1) ∧ LDid w w' lg tb rv L (appL s x).2 := by
  obtain ⟨i0, hi0, hz0, hz1, hz2⟩ := info_parts Try.strInfo
  have hst := state_any' lg tb rv L s w h
  by_cases hh : s.halted = true
  · have hr : appL s x = (12, s) := if_pos hh
    rw [hr]
    rw [if_pos hh] at hst
    go_enter Try.func18, Try.ntmps18
    go_wp2_with fail
    refine hst.mono ?_
    rintro e _ ⟨rfl, rfl⟩
    go_wp2_with fail
    go_ret
    exact ⟨rfl, LDid.same h⟩
  · rw [if_neg hh] at hst
    have HH := Lib.hid h
    have HOK := Lib.hid hok
    obtain ⟨c0, c1, c2, c3, c4⟩ := h.cells
    by_cases hg : good x.toList
    · have hem : (bs (frm x.toList)).toList.isEmpty = false := by rw [frm_empty, decide_eq_true hg]; rfl
      have hfz : (bs (frm x.toList)).size ≤ 9223372036854775807 := by
        rw [bs_size, frm_len hg, size_list]
        unfold good at hg
        rw [size_list] at hg
        omega
      have HF := Lib.hid (frame_any tb x w h.tab hx)
      have HR : Hid (appL s x = if s.t.s.size + (bs (frm x.toList)).size > 16777216 then (13, s) else (0, { s with t := (appendR s.t (bs (frm x.toList))).2, l := s.l ++ [x] })) := Lib.hid (by unfold appL; rw [if_neg hh, if_neg (by simpa using hg)])
      clear h hok hg
      go_enter Try.func18, Try.ntmps18
      go_wp2_with fail
      refine hst.mono ?_
      rintro e _ ⟨rfl, rfl⟩
      go_wp2_with fail
      refine HF.out.mono ?_
      rintro e w1 ⟨rfl, ht, hk⟩
      have HC1 := Lib.hid (HH.out.tabbed hk ht)
      have HS1 : Hid (LStep w w1 lg tb rv L rv L) := Lib.hid (LStep.tab hk)
      clear c0 c1 c2 c3 c4 hk ht HF hst
      generalize bs (frm x.toList) = fr at hem hfz HR ⊢
      obtain ⟨c0, c1, c2, c3, c4⟩ := HC1.out.cells
      go_wp2_with fail
      refine (append_did s.g L s.t fr w1 HC1.out.file HOK.out hfz).mono ?_
      rintro e w2 ⟨rfl, hd⟩
      obtain ⟨L2, hc2, hk2, hs2⟩ := HC1.out.filed hd
      have HC2 := Lib.hid hc2
      have HS2 := Lib.hid (HS1.out.trans (LStep.file hk2 hs2))
      clear c0 c1 c2 c3 c4 hd hc2 hk2 hs2
      by_cases hbig : s.t.s.size + fr.size > 16777216
      · have hap : appendR s.t fr = (13, s.t) := if_pos hbig
        have hr : appL s x = (13, s) := by rw [HR.out, if_pos hbig]
        rw [hap] at HC2 ⊢
        have HRR := Lib.hid hr
        have HD : Hid (LDid w w2 lg tb rv L s) := Lib.hid (HS2.out.did HC2.out)
        clear hap hr hbig
        go_wp2_with fail
        go_ret
        rw [HRR.out]
        exact ⟨rfl, HD.out⟩
      · have hap : (appendR s.t fr).1 = 0 := by unfold appendR; rw [if_neg hbig]
        have hr : appL s x = (0, { s with t := (appendR s.t fr).2, l := s.l ++ [x] }) := by rw [HR.out, if_neg hbig]
        rw [hap]
        have HRR := Lib.hid hr
        generalize (appendR s.t fr).2 = t2 at HC2 HRR ⊢
        clear hap hr hbig
        obtain ⟨c0, c1, c2, c3, c4⟩ := HC2.out.cells
        go_wp2_with (first
          | (at_builtin
             have HC3 := Lib.hid (HC2.out.ext (Ext.alloc w2 (.cells #[.string x] 9)))
             refine wpList_append_rd (P := Try.prog) _ rfl (.tmp 34) (.tmp 36) 34 rfl 0 9 i0 (.string ByteArray.empty) 1 16 Try.underlying34 hi0 hz0 hz1 hz2 rfl (by decide) rv s.l.length _ rfl (by exact HC3.out.own) (some ⟨w2.heap.size, 0, none⟩) 1 1 [.string x] rfl rfl (by exact Rd.new w2 #[_] 9) (by intro u hu; simp at hu; subst hu; rfl) (by simp only [maxLen]; omega) (by omega) (Nat.zero_le _) ?_
             intro v4 w4 happ
             obtain ⟨A4, n4, k4, rfl⟩ := own_shape happ.own
             have happ' : Appended (w2.alloc (.cells #[.string x] 9)) w4 0 9 1 rv (.slice A4 n4 k4) (s.l ++ [x]).length ((s.l ++ [x]).map .string) := by rw [List.length_append, List.map_append]; exact happ
             have HR4 := Lib.hid (HC3.out.rowed happ')
             have hb4 := (ap_kp happ').heap HC3.out.blk (by simp; intro e; exact HC3.out.lg_row _ e rfl)
             clear c0 c1 c2 c3 c4 happ happ'
             have c2 := heap_cell hb4 2
             have f2 := heap_frozen hb4 2
             clear hb4))
        go_ret
        rw [HRR.out]
        exact ⟨rfl, ((HS2.out.trans (LStep.ext (Ext.alloc w2 _))).trans (LStep.row HR4.out.2.1 HR4.out.2.2)).did HR4.out.1⟩
    · have hr : appL s x = (1, s) := by unfold appL; rw [if_neg hh, if_pos hg]
      rw [hr]
      have hem : (bs (frm x.toList)).toList.isEmpty = true := by rw [frm_empty, decide_eq_false hg]; rfl
      have HF := Lib.hid (frame_any tb x w h.tab hx)
      clear h hok hr
      go_enter Try.func18, Try.ntmps18
      go_wp2_with fail
      refine hst.mono ?_
      rintro e _ ⟨rfl, rfl⟩
      go_wp2_with fail
      refine HF.out.mono ?_
      rintro e w1 ⟨rfl, ht, hk⟩
      have hd := (LStep.tab hk).did (HH.out.tabbed hk ht)
      clear c0 c1 c2 c3 c4 hk ht HF hst
      generalize bs (frm x.toList) = fr at hem ⊢
      go_wp2_with fail
      go_ret
      exact ⟨rfl, hd⟩
theorem own_len {w : World} {base e size n : Nat} {v : Value} {xs : List Value} (h : w.ownsRow base e size v n xs) : ∃ A c, v = .slice A n c := by
  rcases h.2 with ⟨rfl, rfl⟩ | ⟨g, cap, cur, rfl, _⟩ <;> exact ⟨_, _, rfl⟩
def syncL (s : LSt) : Int × LSt := if s.halted = true then (12, s) else (0, { s with sure := s.l.length, t := syncT s.t })
set_option maxHeartbeats 4000000 in
theorem lsync_any (lg tb : Nat) (rv : Value) (L : List Nat) (s : LSt) (w : World) (h : LogC w lg tb rv L s) (hl : s.l.length ≤ 4294967296) :
    Calls Try.prog 19 #[.pointer (some ⟨lg, 0, none⟩)] w fun e w' => e = .returned (.int .i64 (syncL s).1) ∧ LDid w w' lg tb rv L (syncL s).2 := by
  have hst := state_any' lg tb rv L s w h
  by_cases hh : s.halted = true
  · have hr : syncL s = (12, s) := if_pos hh
    rw [hr]
    rw [if_pos hh] at hst
    go_enter Try.func19, Try.ntmps19
    go_wp2_with fail
    refine hst.mono ?_
    rintro e _ ⟨rfl, rfl⟩
    go_wp2_with fail
    go_ret
    exact ⟨rfl, LDid.same h⟩
  · have hr : syncL s = (0, { s with sure := s.l.length, t := syncT s.t }) := if_neg hh
    rw [hr]
    rw [if_neg hh] at hst
    obtain ⟨A, c, rfl⟩ := own_len h.own
    obtain ⟨c0, c1, c2, c3, c4⟩ := h.cells
    have f3 := heap_frozen h.blk 3
    have HC1 := Lib.hid (h.worded (n := s.l.length) (b := s.halted) 3 (.int .i64 (s.l.length : Int)) rfl)
    have HS1 : Hid (LStep w (w.setCell ⟨lg, 3, none⟩ (.int .i64 (s.l.length : Int))) lg tb (.slice A s.l.length c) L (.slice A s.l.length c) L) := Lib.hid (LStep.word 3 _)
    clear h hr hh
    go_enter Try.func19, Try.ntmps19
    go_wp2_with fail
    refine hst.mono ?_
    rintro e _ ⟨rfl, rfl⟩
    go_upto_region 5 with fail
    clear c0 c1 c2 c3 c4 f3 hst
    generalize w.setCell ⟨lg, 3, none⟩ (.int .i64 (s.l.length : Int)) = w1 at HC1 HS1 ⊢
    obtain ⟨c0, c1, c2, c3, c4⟩ := HC1.out.cells
    go_wp2_with fail
    refine (sync_any s.g L s.t w1 HC1.out.file).mono ?_
    rintro e w2 ⟨rfl, hd⟩
    obtain ⟨L2, hc2, hk2, hs2⟩ := HC1.out.filed hd
    have HD := Lib.hid ((HS1.out.trans (LStep.file hk2 hs2)).did hc2)
    clear c0 c1 c2 c3 c4 hd hc2 hk2 hs2
    go_wp2_with fail
    go_ret
    exact ⟨rfl, HD.out⟩
theorem lsure_any (lg tb : Nat) (rv : Value) (L : List Nat) (s : LSt) (w : World) (h : LogC w lg tb rv L s) :
    Calls Try.prog 25 #[.pointer (some ⟨lg, 0, none⟩)] w fun e w' => e = .returned (.int .i64 (s.sure : Int)) ∧ w = w' := by
  obtain ⟨c0, c1, c2, c3, c4⟩ := h.cells
  clear h
  go_enter Try.func25, Try.ntmps25
  go_wp2_with fail
  go_ret
  exact ⟨rfl, rfl⟩
theorem halted_any (lg tb : Nat) (rv : Value) (L : List Nat) (s : LSt) (w : World) (h : LogC w lg tb rv L s) :
    Calls Try.prog 20 #[.pointer (some ⟨lg, 0, none⟩)] w fun e w' => e = .returned (.bool s.halted) ∧ w = w' := by
  obtain ⟨c0, c1, c2, c3, c4⟩ := h.cells
  clear h
  go_enter Try.func20, Try.ntmps20
  go_wp2_with fail
  go_ret
  exact ⟨rfl, rfl⟩
theorem own_txt {w : World} {B : Nat} {rv : Value} {l : List ByteArray} (h : w.ownsRow B 9 1 rv l.length (l.map .string)) : Txt w rv l := by
  rcases h.2 with ⟨rfl, hn⟩ | ⟨g, cap, cur, rfl, hb, hh, hc, hm, hz, ht⟩
  · have : l = [] := List.eq_nil_of_length_eq_zero hn
    rw [this]
    exact (Own.nil w w).txt
  · refine ⟨_, _, _, rfl, rfl, hc, by simpa [maxLen] using hm, fun hne => ⟨_, rfl, fun j u hu => ?_⟩⟩
    rw [add_at, heap_cell hh]
    rw [Nat.mul_one] at ht
    have h2 := hu
    rw [← ht, List.getElem?_take] at h2
    split at h2
    · rw [← Array.getElem?_toList]; exact h2
    · simp at h2
set_option maxHeartbeats 4000000 in
theorem records_core (lg : Nat) (u0 u1 u3 u4 rv : Value) (l : List ByteArray) (w : World) (hb : w.heap[lg]? = some (.cells #[u0, u1, rv, u3, u4] 47 (0, 0))) (ho : w.ownsRow 0 9 1 rv l.length (l.map .string)) (hl : l.length ≤ 4294967296) :
    Calls Try.prog 23 #[.pointer (some ⟨lg, 0, none⟩)] w fun e w' => ∃ u, e = .returned u ∧ Own w w' u l ∧ Ext w w' := by
  obtain ⟨A, n, c, rfl, hn, hnc, hcm, hr⟩ := own_txt ho
  have c2 := heap_cell hb 2
  have HR := Lib.hid hr
  have HN := Lib.hid hn
  clear hr hn hb ho
  go_enter Try.func23, Try.ntmps23
  go_wp2_with (first
    | (at_builtin
       refine app_strs w rfl (.const (.slice none 0 0)) (.tmp 8) rfl w (.slice none 0 0) [] rfl (Own.nil w w) A n c l rfl HN.out HR.out (by simp; omega) (Ext.refl _) ?_
       intro v1 w1 hown hext))
  go_ret
  exact ⟨v1, rfl, by simpa using hown, hext⟩
theorem records_any (lg tb : Nat) (rv : Value) (L : List Nat) (s : LSt) (w : World) (h : LogC w lg tb rv L s) (hl : s.l.length ≤ 4294967296) :
    Calls Try.prog 23 #[.pointer (some ⟨lg, 0, none⟩)] w fun e w' => ∃ u, e = .returned u ∧ Own w w' u s.l ∧ Ext w w' := records_core lg _ _ _ _ rv s.l w h.blk h.own hl
theorem LogC.newrow {w w' : World} {lg tb : Nat} {rv rv' : Value} {L : List Nat} {s : LSt} {l' : List ByteArray} (h : LogC w lg tb rv L s) (hx : Ext w w') (ho : w'.ownsRow 0 9 1 rv' l'.length (l'.map .string)) (hnew : ∀ k, rv'.ownBlock = some k → w.heap.size ≤ k) :
    LogC (w'.setCell ⟨lg, 2, none⟩ rv') lg tb rv' L { s with l := l' } ∧ LStep w (w'.setCell ⟨lg, 2, none⟩ rv') lg tb rv L rv' L := by
  have h1 := h.ext hx
  have hk2 : Kp [lg] w' (w'.setCell ⟨lg, 2, none⟩ rv') := Kp.store lg 2 _ (by simp)
  have hst := heap_setCell_same w' lg 2 _ 47 rv' h1.blk
  have hlt := h.lts lg (mem_bl.2 (.inl rfl))
  refine ⟨⟨hst, h1.tab.kp hk2 (by simpa using fun e => h.lg_tb e.symm), own_kp ho hk2 (fun k e => by have := hnew k e; simp; omega), h1.file.kp hk2 (nob_of h1.blk (by decide)) (fun k hm hk => by simp at hk; exact h.lg_file (hk ▸ hm))⟩, ?_, ?_⟩
  · exact ((Kp.of_ext (L := [lg]) hx).trans hk2 (Sub.refl _ _)).mono (by intro k hk; simp at hk; exact mem_bl.2 (.inl hk))
  · intro k hk
    rcases mem_bl.1 hk with h | h | h | h
    · exact .inl (mem_bl.2 (.inl h))
    · exact .inl (mem_bl.2 (.inr (.inl h)))
    · exact .inr (hnew k h)
    · exact .inl (mem_bl.2 (.inr (.inr (.inr h))))
theorem keep_old {w0 w : World} {v : Value} {l : List ByteArray} {K : List Nat} (hv : Txt w0 v l) (hx : Ext w0 w) (hB : ∀ k ∈ K, w0.heap.size ≤ k) : ∀ w', Kp K w w' → Txt w' v l := fun w' hk => hv.ext (hk.to_ext hx hB)
theorem keep_new {w : World} {q n : Nat} {l : List ByteArray} {K : List Nat} (hv : Txt w (.slice (some ⟨q, 0, none⟩) n n) l) (hq : q ∉ K) : ∀ w', Kp K w w' → Txt w' (.slice (some ⟨q, 0, none⟩) n n) l := fun w' hk => by
  obtain ⟨A, m, c, e, h1, h2, h3, h4⟩ := hv
  refine ⟨A, m, c, e, h1, h2, h3, hk.rd h4 (fun ad ea => ?_)⟩
  injection e with e1 _ _
  rw [ea] at e1
  injection e1 with e1
  rw [← e1]
  exact hq
/-- The file behind a rewrite's steps. -/
def rewT (t : St) (fs : ByteArray) (n : Int) : St :=
  let t1 := if 1 ≤ n then { t with other := some (fs, 0) } else t
  let t2 := if 2 ≤ n then (flushR t1).2 else t1
  if 3 ≤ n then (renameR t2).2 else t2
def rewL (s : LSt) (l : List ByteArray) (n : Int) : Int × LSt :=
  if s.halted = true then (12, s) else if frmsOk l = false ∨ n < 0 then (1, s) else
  if n < 4 then (12, { s with t := rewT s.t (bs (frmsB l)) n, halted := true }) else (0, { s with l := l, sure := l.length, t := syncT (rewT s.t (bs (frmsB l)) n) })
set_option maxHeartbeats 8000000 in
theorem rewrite_any (lg tb : Nat) (rv : Value) (L : List Nat) (s : LSt) (v : Value) (l : List ByteArray) (n : Int) (w : World) (h : LogC w lg tb rv L s) (hv : ∀ w', Kp (bl lg tb rv L) w w' → Txt w' v l) (hl : l.length ≤ 1000) (hs : ∀ x ∈ l, x.size ≤ 400) (h1 : -9223372036854775808 ≤ n) (h2 : n ≤ 9223372036854775807) :
    Calls Try.prog 21 #[.pointer (some ⟨lg, 0, none⟩), v, .int .i64 n] w fun e w' => e = .returned (.int .i64 (rewL s l n).1) ∧ LDid w w' lg tb rv L (rewL s l n).2 := by
  have hst := state_any' lg tb rv L s w h
  by_cases hh : s.halted = true
  · have hr : rewL s l n = (12, s) := if_pos hh
    rw [hr]
    rw [if_pos hh] at hst
    go_enter Try.func21, Try.ntmps21
    go_wp2_with fail
    refine hst.mono ?_
    rintro e _ ⟨rfl, rfl⟩
    go_wp2_with fail
    go_ret
    exact ⟨rfl, LDid.same h⟩
  · rw [if_neg hh] at hst
    have hrl : rewL s l n = if frmsOk l = false ∨ n < 0 then (1, s) else
        if n < 4 then (12, { s with t := rewT s.t (bs (frmsB l)) n, halted := true }) else (0, { s with l := l, sure := l.length, t := syncT (rewT s.t (bs (frmsB l)) n) }) := by unfold rewL; rw [if_neg hh]
    have hfz := frms_le l hs
    have HF := Lib.hid (frames_any tb v l w h.tab (fun w' hk => hv w' (hk.mono (by intro k hk; simp at hk; exact mem_bl.2 (.inr (.inl hk))))) hl hs)
    obtain ⟨c0, c1, c2, c3, c4⟩ := h.cells
    have HH := Lib.hid h
    have HV := Lib.hid hv
    clear h hv hs hh
    go_enter Try.func21, Try.ntmps21
    go_wp2_with fail
    refine hst.mono ?_
    rintro e _ ⟨rfl, rfl⟩
    go_wp2_with fail
    refine HF.out.mono ?_
    rintro e w1 ⟨rfl, ht, hk⟩
    have HC := Lib.hid (HH.out.tabbed hk ht)
    have HS : Hid (LStep w w1 lg tb rv L rv L) := Lib.hid (LStep.tab hk)
    clear c0 c1 c2 c3 c4 hk ht hst HF
    cases hok : frmsOk l with
    | false =>
      have HR : Hid (rewL s l n = (1, s)) := Lib.hid (by rw [hrl, if_pos (.inl hok)])
      rw [frRes_no hok]
      clear hrl
      go_wp2_with fail
      go_ret
      rw [HR.out]
      exact ⟨rfl, HS.out.did HC.out⟩
    | true =>
      rw [frRes_yes hok]
      rw [hok] at hrl
      rw [← bs_size] at hfz
      generalize bs (frmsB l) = fs at hfz hrl ⊢
      by_cases hn0 : n < 0
      · have HR : Hid (rewL s l n = (1, s)) := Lib.hid (by rw [hrl, if_pos (.inr hn0)])
        have hn0J : decide (n < 0) = true := decide_eq_true hn0
        clear hrl
        go_wp2_with fail
        go_ret
        rw [HR.out]
        exact ⟨rfl, HS.out.did HC.out⟩
      · rw [if_neg (by simpa using hn0)] at hrl
        have hcs : n = 0 ∨ n = 1 ∨ n = 2 ∨ n = 3 ∨ 4 ≤ n := by omega
        rcases hcs with rfl | rfl | rfl | rfl | hn4
        · have HR : Hid (rewL s l 0 = (12, { s with t := s.t, halted := true })) := Lib.hid (by rw [hrl, if_pos (by decide)]; rfl)
          clear hrl hn0
          obtain ⟨c0, c1, c2, c3, c4⟩ := HC.out.cells
          have f4 := heap_frozen HC.out.blk 4
          have HD := Lib.hid ((HS.out.trans (LStep.word 4 (.bool true))).did (HC.out.worded (n := s.sure) (b := true) 4 (.bool true) rfl))
          go_wp2_with fail
          go_ret
          rw [HR.out]
          exact ⟨rfl, HD.out⟩
        · have HR : Hid (rewL s l 1 = (12, { s with t := { s.t with other := some (fs, 0) }, halted := true })) := Lib.hid (by rw [hrl, if_pos (by decide)]; rfl)
          clear hrl hn0
          obtain ⟨c0, c1, c2, c3, c4⟩ := HC.out.cells
          go_wp2_with fail
          refine (lay_did s.g _ s.t fs _ HC.out.file (by omega)).mono ?_
          rintro e w2 ⟨rfl, hd⟩
          have hly : layR s.t fs = (0, { s.t with other := some (fs, 0) }) := if_neg (by omega)
          rw [hly] at hd ⊢
          obtain ⟨L2, hc2, hk2, hs2⟩ := HC.out.filed hd
          have HS2 := Lib.hid (HS.out.trans (LStep.file hk2 hs2))
          have HC2 := Lib.hid hc2
          clear c0 c1 c2 c3 c4 hd hc2 hk2 hs2 hly HC HS
          obtain ⟨c0, c1, c2, c3, c4⟩ := HC2.out.cells
          have f4 := heap_frozen HC2.out.blk 4
          have HD := Lib.hid ((HS2.out.trans (LStep.word 4 (.bool true))).did (HC2.out.worded (n := s.sure) (b := true) 4 (.bool true) rfl))
          go_wp2_with fail
          go_ret
          rw [HR.out]
          exact ⟨rfl, HD.out⟩
        · have HR : Hid (rewL s l 2 = (12, { s with t := (flushR { s.t with other := some (fs, 0) }).2, halted := true })) := Lib.hid (by rw [hrl, if_pos (by decide)]; rfl)
          clear hrl hn0
          obtain ⟨c0, c1, c2, c3, c4⟩ := HC.out.cells
          go_wp2_with fail
          refine (lay_did s.g _ s.t fs _ HC.out.file (by omega)).mono ?_
          rintro e w2 ⟨rfl, hd⟩
          have hly : layR s.t fs = (0, { s.t with other := some (fs, 0) }) := if_neg (by omega)
          rw [hly] at hd ⊢
          obtain ⟨L2, hc2, hk2, hs2⟩ := HC.out.filed hd
          have HS2 := Lib.hid (HS.out.trans (LStep.file hk2 hs2))
          have HC2 := Lib.hid hc2
          clear c0 c1 c2 c3 c4 hd hc2 hk2 hs2 hly HC HS
          obtain ⟨c0, c1, c2, c3, c4⟩ := HC2.out.cells
          go_wp2_with fail
          refine (flush_any s.g _ _ _ HC2.out.file).mono ?_
          rintro e w3 ⟨rfl, hd⟩
          obtain ⟨L3, hc3, hk3, hs3⟩ := HC2.out.filed hd
          have HS3 := Lib.hid (HS2.out.trans (LStep.file hk3 hs3))
          have HC3 := Lib.hid hc3
          clear c0 c1 c2 c3 c4 hd hc3 hk3 hs3 HC2 HS2
          obtain ⟨c0, c1, c2, c3, c4⟩ := HC3.out.cells
          have f4 := heap_frozen HC3.out.blk 4
          have HD := Lib.hid ((HS3.out.trans (LStep.word 4 (.bool true))).did (HC3.out.worded (n := s.sure) (b := true) 4 (.bool true) rfl))
          go_wp2_with fail
          go_ret
          rw [HR.out]
          exact ⟨rfl, HD.out⟩
        · have HR : Hid (rewL s l 3 = (12, { s with t := (renameR (flushR { s.t with other := some (fs, 0) }).2).2, halted := true })) := Lib.hid (by rw [hrl, if_pos (by decide)]; rfl)
          clear hrl hn0
          obtain ⟨c0, c1, c2, c3, c4⟩ := HC.out.cells
          go_wp2_with fail
          refine (lay_did s.g _ s.t fs _ HC.out.file (by omega)).mono ?_
          rintro e w2 ⟨rfl, hd⟩
          have hly : layR s.t fs = (0, { s.t with other := some (fs, 0) }) := if_neg (by omega)
          rw [hly] at hd ⊢
          obtain ⟨L2, hc2, hk2, hs2⟩ := HC.out.filed hd
          have HS2 := Lib.hid (HS.out.trans (LStep.file hk2 hs2))
          have HC2 := Lib.hid hc2
          clear c0 c1 c2 c3 c4 hd hc2 hk2 hs2 hly HC HS
          obtain ⟨c0, c1, c2, c3, c4⟩ := HC2.out.cells
          go_wp2_with fail
          refine (flush_any s.g _ _ _ HC2.out.file).mono ?_
          rintro e w3 ⟨rfl, hd⟩
          obtain ⟨L3, hc3, hk3, hs3⟩ := HC2.out.filed hd
          have HS3 := Lib.hid (HS2.out.trans (LStep.file hk3 hs3))
          have HC3 := Lib.hid hc3
          clear c0 c1 c2 c3 c4 hd hc3 hk3 hs3 HC2 HS2
          obtain ⟨c0, c1, c2, c3, c4⟩ := HC3.out.cells
          go_wp2_with fail
          refine (rename_any s.g _ _ _ HC3.out.file).mono ?_
          rintro e w4 ⟨rfl, hd⟩
          obtain ⟨L4, hc4, hk4, hs4⟩ := HC3.out.filed hd
          have HS4 := Lib.hid (HS3.out.trans (LStep.file hk4 hs4))
          have HC4 := Lib.hid hc4
          clear c0 c1 c2 c3 c4 hd hc4 hk4 hs4 HC3 HS3
          obtain ⟨c0, c1, c2, c3, c4⟩ := HC4.out.cells
          have f4 := heap_frozen HC4.out.blk 4
          have HD := Lib.hid ((HS4.out.trans (LStep.word 4 (.bool true))).did (HC4.out.worded (n := s.sure) (b := true) 4 (.bool true) rfl))
          go_wp2_with fail
          go_ret
          rw [HR.out]
          exact ⟨rfl, HD.out⟩
        · have HRT : Hid (rewT s.t fs n = (renameR (flushR { s.t with other := some (fs, 0) }).2).2) := Lib.hid (by unfold rewT; rw [if_pos (by omega), if_pos (by omega), if_pos (by omega)])
          have HR : Hid (rewL s l n = (0, { s with l := l, sure := l.length, t := syncT (renameR (flushR { s.t with other := some (fs, 0) }).2).2 })) := Lib.hid (by rw [hrl, if_neg (by omega), HRT.out])
          have hg0 : decide (n < 0) = false := decide_eq_false hn0
          have hg1 : decide ((1 : Int) ≤ n) = true := decide_eq_true (by omega)
          have hg2 : decide ((2 : Int) ≤ n) = true := decide_eq_true (by omega)
          have hg3 : decide ((3 : Int) ≤ n) = true := decide_eq_true (by omega)
          have hg4 : decide (n < 4) = false := decide_eq_false (by omega)
          have hhf : s.halted = false := by
            cases hh : s.halted with
            | false => rfl
            | true =>
              have := HR.out
              unfold rewL at this
              rw [if_pos hh] at this
              cases this
          have HHF := Lib.hid hhf
          clear hrl hn0 HRT hn4 hhf
          obtain ⟨c0, c1, c2, c3, c4⟩ := HC.out.cells
          go_wp2_with fail
          refine (lay_did s.g _ s.t fs _ HC.out.file (by omega)).mono ?_
          rintro e w2 ⟨rfl, hd⟩
          have hly : layR s.t fs = (0, { s.t with other := some (fs, 0) }) := if_neg (by omega)
          rw [hly] at hd ⊢
          obtain ⟨L2, hc2, hk2, hs2⟩ := HC.out.filed hd
          have HS2 := Lib.hid (HS.out.trans (LStep.file hk2 hs2))
          have HC2 := Lib.hid hc2
          clear c0 c1 c2 c3 c4 hd hc2 hk2 hs2 hly HC HS
          obtain ⟨c0, c1, c2, c3, c4⟩ := HC2.out.cells
          go_wp2_with fail
          refine (flush_any s.g _ _ _ HC2.out.file).mono ?_
          rintro e w3 ⟨rfl, hd⟩
          obtain ⟨L3, hc3, hk3, hs3⟩ := HC2.out.filed hd
          have HS3 := Lib.hid (HS2.out.trans (LStep.file hk3 hs3))
          have HC3 := Lib.hid hc3
          clear c0 c1 c2 c3 c4 hd hc3 hk3 hs3 HC2 HS2
          obtain ⟨c0, c1, c2, c3, c4⟩ := HC3.out.cells
          go_wp2_with fail
          refine (rename_any s.g _ _ _ HC3.out.file).mono ?_
          rintro e w4 ⟨rfl, hd⟩
          obtain ⟨L4, hc4, hk4, hs4⟩ := HC3.out.filed hd
          have HS4 := Lib.hid (HS3.out.trans (LStep.file hk4 hs4))
          have HC4 := Lib.hid hc4
          clear c0 c1 c2 c3 c4 hd hc4 hk4 hs4 HC3 HS3
          generalize (renameR (flushR { s.t with other := some (fs, 0) }).2).2 = t4 at HC4 HR
          obtain ⟨c0, c1, c2, c3, c4⟩ := HC4.out.cells
          obtain ⟨A, m, c, rfl, hm, hmc, hcm, hr⟩ := HV.out _ HS4.out.1
          have HM := Lib.hid hm
          have HRD := Lib.hid hr
          clear hm hr
          go_upto_region 19 with (first
            | (at_builtin
               refine app_strs w4 rfl (.const (.slice none 0 0)) (.tmp 62) rfl w4 (.slice none 0 0) [] rfl (Own.nil w4 w4) A m c l rfl HM.out HRD.out (by simp; omega) (Ext.refl _) ?_
               intro v5 w5 hown hext
               obtain ⟨A5, m5, k5, rfl⟩ := own_shape hown
               have hown' : w5.ownsRow w4.heap.size 9 1 (.slice A5 m5 k5) l.length (l.map .string) := by simpa [Own] using hown
               have hb5 := (Kp.of_ext (L := []) hext).heap HC4.out.blk (by simp)
               have HN := Lib.hid (HC4.out.newrow (l' := l) hext (own_base hown') (own_new hown'))
               clear c0 c1 c2 c3 c4 hown hown' hext
               have c2 := heap_cell hb5 2
               have f2 := heap_frozen hb5 2
               clear hb5))
          clear c2 f2
          have HC5 := Lib.hid HN.out.1
          have HS5 := Lib.hid (HS4.out.trans HN.out.2)
          clear HN HC4 HS4
          go_wp2_with fail
          refine (lsync_any lg tb _ _ _ _ HC5.out (by dsimp only; omega)).mono ?_
          rintro e w6 ⟨rfl, hd⟩
          have hsy : syncL { g := s.g, t := t4, l := l, sure := s.sure, halted := s.halted } = (0, { s with l := l, sure := l.length, t := syncT t4 }) := by unfold syncL; rw [HHF.out]; rfl
          rw [hsy] at hd ⊢
          obtain ⟨rv6, L6, hc6, hk6, hs6⟩ := hd
          have HD : Hid (LDid w w6 lg tb rv L { s with l := l, sure := l.length, t := syncT t4 }) := Lib.hid ((HS5.out.trans ⟨hk6, hs6⟩).did hc6)
          clear hsy hc6 hk6 hs6
          go_wp2_with fail
          go_ret
          rw [HR.out]
          exact ⟨rfl, HD.out⟩
end Go.Proofs.Ytdndeggognfcaaa
