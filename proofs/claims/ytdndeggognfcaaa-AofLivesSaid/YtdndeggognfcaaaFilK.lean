/- What a call may have changed: the blocks of a list, and new ones. Files in memory. -/
import Derived.Test.YtdndeggognfcaaaFilB
namespace Go.Proofs.Ytdndeggognfcaaa
open Go.RowKit Go.Lib Fil
set_option linter.unusedVariables false
set_option maxRecDepth 100000

/-- Only the blocks of L may have changed; new ones may have come. -/
structure Kp (L : List Nat) (w w' : World) : Prop where
  os : w'.os = w.os
  tape : w'.tape = w.tape
  output : w'.output = w.output
  size : w.heap.size ≤ w'.heap.size
  block : ∀ k, k < w.heap.size → k ∉ L → w'.heap[k]? = w.heap[k]?
/-- The blocks of L' are of L, or new. -/
def Sub (w : World) (L L' : List Nat) : Prop := ∀ k ∈ L', k ∈ L ∨ w.heap.size ≤ k

section
variable {w w' w'' w0 : World} {L L' : List Nat} {B : Nat}
theorem Kp.refl (L : List Nat) (w : World) : Kp L w w := ⟨rfl, rfl, rfl, Nat.le_refl _, fun _ _ _ => rfl⟩
theorem Kp.trans (h : Kp L w w') (k : Kp L' w' w'') (hs : Sub w L L') : Kp L w w'' :=
  ⟨k.os.trans h.os, k.tape.trans h.tape, k.output.trans h.output, Nat.le_trans h.size k.size, fun i hi hn =>
    (k.block i (Nat.lt_of_lt_of_le hi h.size) (fun hm => (hs i hm).elim hn (fun hh => by omega))).trans (h.block i hi hn)⟩
theorem Sub.refl (w : World) (L : List Nat) : Sub w L L := fun _ h => .inl h
theorem Sub.trans {L'' : List Nat} (h : Sub w L L') (k : Sub w' L' L'') (hz : w.heap.size ≤ w'.heap.size) : Sub w L L'' := fun i hi =>
  (k i hi).elim (fun hm => h i hm) (fun hm => .inr (Nat.le_trans hz hm))
theorem Kp.of_ext (h : Ext w w') : Kp L w w' := ⟨h.os, h.tape, h.output, h.size, fun k hk _ => h.block k hk⟩
theorem Kp.ext (h : Kp [] w w') : Ext w w' := ⟨h.os, h.tape, h.output, h.size, fun k hk => h.block k hk (by simp)⟩
theorem Kp.then (h : Kp L w w') (k : Ext w' w'') : Kp L w w'' := h.trans (Kp.of_ext (L := []) k) (fun _ h => by simp at h)
theorem Kp.mono (h : Kp L w w') (hs : ∀ k ∈ L, k ∈ L') : Kp L' w w' := ⟨h.os, h.tape, h.output, h.size, fun k hk hn => h.block k hk (fun hm => hn (hs k hm))⟩
theorem Kp.store (g i : Nat) (u : Value) (hg : g ∈ L) : Kp L w (w.setCell ⟨g, i, none⟩ u) :=
  ⟨rfl, rfl, rfl, by simp, fun k hk hn => Below.heap_setCell _ _ _ _ (by rintro rfl; exact hn hg)⟩
theorem Kp.below (h : Kp L w w') (hb : Below B w0 w) (hL : ∀ k ∈ L, B ≤ k) (hB : B ≤ w.heap.size) : Below B w0 w' :=
  hb.trans ⟨h.os, h.tape, h.output, h.size, fun k hk => h.block k (by omega) (fun hm => by have := hL k hm; omega)⟩
theorem Kp.to_ext (h : Kp L w w') (hb : Ext w0 w) (hL : ∀ k ∈ L, w0.heap.size ≤ k) : Ext w0 w' := Kp.below h hb hL hb.size
theorem Kp.heap (h : Kp L w w') {k : Nat} {o : Obj} (hk : w.heap[k]? = some o) (hn : k ∉ L) : w'.heap[k]? = some o :=
  (h.block k (Array.getElem?_eq_some_iff.1 hk).1 hn).trans hk
theorem Kp.rd {A : Option Addr} {cs : List Value} (h : Kp L w w') (hr : Rd w A cs) (hn : ∀ ad, A = some ad → ad.block ∉ L) : Rd w' A cs := fun hne => by
  obtain ⟨ad, e, hcell⟩ := hr hne
  refine ⟨ad, e, fun j u hu => ?_⟩
  have h1 := hcell j u hu
  have hlt := World.block_lt_of_cell? w _ h1
  rw [add_block] at hlt
  rw [World.cell?_of_block (w := w) (w' := w') (a := ad.add j) (by rw [add_block]; exact h.block _ hlt (hn ad e))]
  exact h1
end

/-- None of the blocks holds bytes. -/
def NoB (w : World) (L : List Nat) : Prop := ∀ k ∈ L, ∀ c f, w.heap[k]? ≠ some (.cells c 5 f)
theorem BT.kp {w w' : World} {L : List Nat} {v : Value} {l : List UInt8} (h : BT w v l) (hk : Kp L w w') (hn : NoB w L) : BT w' v l := by
  obtain ⟨A, n, c, h1, h2, h3, h4, h5⟩ := h
  refine ⟨A, n, c, h1, h2, h3, h4, h5.imp id ?_⟩
  rintro ⟨g, cur, f, ha, hg, hs, ht⟩
  exact ⟨g, cur, f, ha, hk.heap hg (fun hm => hn g hm _ _ hg), hs, ht⟩

/-- Another text, if there is one, in the blocks of L. -/
def TextAt (w : World) (v : Value) (L : List Nat) : Option (ByteArray × Nat) → Prop
  | none => v = .pointer none ∧ L = []
  | some p => ∃ g bv, v = .pointer (some ⟨g, 0, none⟩) ∧ L = [g] ∧ w.heap[g]? = some (.cells #[bv, .int .i64 (p.2 : Int)] 79 (0, 0)) ∧ BT w bv p.1.toList
/-- A file at block g, with the blocks of L. -/
def FileAt (w : World) (g : Nat) (L : List Nat) (t : St) : Prop :=
  ∃ bv ov dv Lo Ld, w.heap[g]? = some (.cells #[bv, .int .i64 (t.sure : Int), ov, dv] 82 (0, 0)) ∧ BT w bv t.s.toList ∧ TextAt w ov Lo t.other ∧ TextAt w dv Ld t.old ∧ L = g :: (Lo ++ Ld) ∧ (∀ k ∈ Lo, k ∉ Ld)

theorem TextAt.typed {w : World} {v : Value} {L : List Nat} {p : Option (ByteArray × Nat)} (h : TextAt w v L p) : ∀ k ∈ L, ∃ c f, w.heap[k]? = some (.cells c 79 f) := by
  intro k hk
  cases p with
  | none => rw [h.2] at hk; simp at hk
  | some p =>
    obtain ⟨g, bv, _, rfl, hg, _⟩ := h
    simp at hk
    subst hk
    exact ⟨_, _, hg⟩
theorem TextAt.kp {w w' : World} {v : Value} {L L' : List Nat} {p : Option (ByteArray × Nat)} (h : TextAt w v L' p) (hk : Kp L w w') (hn : NoB w L) (hd : ∀ k ∈ L', k ∉ L) : TextAt w' v L' p := by
  cases p with
  | none => exact h
  | some p =>
    obtain ⟨g, bv, hv, rfl, hg, hb⟩ := h
    exact ⟨g, bv, hv, rfl, hk.heap hg (hd g (by simp)), hb.kp hk hn⟩
theorem TextAt.ext {w w' : World} {v : Value} {L' : List Nat} {p : Option (ByteArray × Nat)} (h : TextAt w v L' p) (hk : Ext w w') : TextAt w' v L' p := h.kp (L := []) (Kp.of_ext hk) (by intro k hk; simp at hk) (by simp)
theorem FileAt.nob {w : World} {g : Nat} {L : List Nat} {t : St} (h : FileAt w g L t) : NoB w L := by
  obtain ⟨bv, ov, dv, Lo, Ld, hg, hb, ho, hd, rfl, hn⟩ := h
  intro k hk c f hc
  simp only [List.mem_cons, List.mem_append] at hk
  rcases hk with rfl | hk | hk
  · exact blocks_ne hg hc (by decide) rfl
  · obtain ⟨c', f', h'⟩ := ho.typed k hk
    exact blocks_ne h' hc (by decide) rfl
  · obtain ⟨c', f', h'⟩ := hd.typed k hk
    exact blocks_ne h' hc (by decide) rfl
theorem FileAt.lt {w : World} {g : Nat} {L : List Nat} {t : St} (h : FileAt w g L t) : ∀ k ∈ L, k < w.heap.size := by
  obtain ⟨bv, ov, dv, Lo, Ld, hg, hb, ho, hd, rfl, hn⟩ := h
  intro k hk
  simp only [List.mem_cons, List.mem_append] at hk
  rcases hk with rfl | hk | hk
  · exact (Array.getElem?_eq_some_iff.1 hg).1
  · obtain ⟨c', f', h'⟩ := ho.typed k hk
    exact (Array.getElem?_eq_some_iff.1 h').1
  · obtain ⟨c', f', h'⟩ := hd.typed k hk
    exact (Array.getElem?_eq_some_iff.1 h').1
/-- None of a file's blocks is of another type. -/
theorem FileAt.other {w : World} {g : Nat} {L : List Nat} {t : St} (h : FileAt w g L t) {k : Nat} {c : Array Value} {e : TypeId} {f : Nat × Nat} (hk : w.heap[k]? = some (.cells c e f)) (h1 : e ≠ 82) (h2 : e ≠ 79) : k ∉ L := by
  obtain ⟨bv, ov, dv, Lo, Ld, hg, hb, ho, hd, rfl, hn⟩ := h
  intro hm
  simp only [List.mem_cons, List.mem_append] at hm
  rcases hm with rfl | hm | hm
  · exact blocks_ne hk hg h1 rfl
  · obtain ⟨c', f', h'⟩ := ho.typed k hm
    exact blocks_ne hk h' h2 rfl
  · obtain ⟨c', f', h'⟩ := hd.typed k hm
    exact blocks_ne hk h' h2 rfl
theorem FileAt.kp {w w' : World} {g : Nat} {L L' : List Nat} {t : St} (h : FileAt w g L' t) (hk : Kp L w w') (hn : NoB w L) (hd : ∀ k ∈ L', k ∉ L) : FileAt w' g L' t := by
  obtain ⟨bv, ov, dv, Lo, Ld, hg, hb, ho, hod, rfl, hne⟩ := h
  simp only [List.mem_cons, List.mem_append] at hd
  exact ⟨bv, ov, dv, Lo, Ld, hk.heap hg (hd g (.inl rfl)), hb.kp hk hn, ho.kp hk hn (fun k h => hd k (.inr (.inl h))), hod.kp hk hn (fun k h => hd k (.inr (.inr h))), rfl, hne⟩
theorem FileAt.ext {w w' : World} {g : Nat} {L : List Nat} {t : St} (h : FileAt w g L t) (hx : Ext w w') : FileAt w' g L t := h.kp (L := []) (Kp.of_ext hx) (by intro k hk; simp at hk) (by simp)

/-- What a call leaves of a file. -/
def Did (w w' : World) (g : Nat) (L : List Nat) (t : St) : Prop := Kp L w w' ∧ ∃ L', FileAt w' g L' t ∧ Sub w L L'
theorem Did.same {w : World} {g : Nat} {L : List Nat} {t : St} (h : FileAt w g L t) : Did w w g L t := ⟨Kp.refl _ _, L, h, Sub.refl _ _⟩
theorem Did.mk' {w w' : World} {g : Nat} {L : List Nat} {t : St} (hk : Kp L w w') (h : FileAt w' g L t) : Did w w' g L t := ⟨hk, L, h, Sub.refl _ _⟩
/-- Another file is as it was. -/
theorem Did.others {w w' : World} {g g2 : Nat} {L L2 : List Nat} {t t0 t2 : St} (h : Did w w' g L t) (h0 : FileAt w g L t0) (h2 : FileAt w g2 L2 t2) (hd : ∀ k ∈ L2, k ∉ L) : FileAt w' g2 L2 t2 := h2.kp h.1 h0.nob hd

theorem toList_append2 (s t : ByteArray) : (s ++ t).toList = s.toList ++ t.toList := by
  rw [Lib.toList_data, Lib.toList_data, Lib.toList_data, ByteArray.data_append]
  simp
/-- .. for the walk. -/
theorem wp_app_str {P : Program} {ops : Array Oper} {rest : List Oper} {o : Oper} {a : Act} {Q : Exit → Act → World → Prop} (w : World) (hgd : o.guard = none) (sl x : Operand)
    (ho : o.op = .call { callee := .builtin .append, args := #[sl, x], argTypes := #[50, 9] })
    (i : TypeInfo) (ht : P.underlying 50 = some (.slice 5)) (hu : P.underlying 9 = some .string) (hi : P.info? 5 = some i) (hz : i.zero = some (.int .u8 0)) (hs1 : i.size = 1) (hby : i.bytes = 1)
    (A : Option Addr) (n : Nat) (l : List UInt8) (hs : a.eval sl = .slice A n n) (hb : BT w (.slice A n n) l) (s : ByteArray) (hx : a.eval x = .string s) (h32 : n + s.size ≤ 17179869184)
    (h : ∀ v' w', BT w' v' (l ++ s.toList) → Ext w w' → wpList P ops Q rest (a.put o.dst v') w') : wpList P ops Q (o :: rest) a w := by
  refine wpList_plain hgd fun K hK => ?_
  obtain ⟨v', w', hr, h2, h3⟩ := app_str (P := P) w o.type i ht hu hi hz hs1 hby A n l hb s h32
  unfold Oper.wp execOp
  simp only [ho, resolve, invoke, builtin, Sem.run_bind, Sem.run_pure, Result.andThen_ok, List.map_toArray, List.map_cons, List.map_nil, hs, hx, hr]
  exact hK _ _ (h v' w' h2 h3)
end Go.Proofs.Ytdndeggognfcaaa
