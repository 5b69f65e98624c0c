/- Maps whose values are rows: what each key holds; look-up, store, delete. -/
import Derived.Test.YtccjbmmhdbainaaIdxK
namespace Go.Proofs.Ytccjbmmhdbainaa
open Go.RowKit Sets
set_option linter.unusedVariables false
set_option maxRecDepth 100000
set_option linter.unusedSectionVars false
set_option linter.unusedSimpArgs false

/-- Cells are as they were; maps may have turned. -/
structure Cm (w w' : World) : Prop where
  os : w'.os = w.os
  tape : w'.tape = w.tape
  output : w'.output = w.output
  size : w.heap.size ≤ w'.heap.size
  cells : ∀ (k : Nat) (c : Array Value) (e : TypeId) (f : Nat × Nat), w.heap[k]? = some (.cells c e f) → w'.heap[k]? = some (.cells c e f)
section
variable {w w' w'' : World}
theorem Cm.refl (w : World) : Cm w w := ⟨rfl, rfl, rfl, Nat.le_refl _, fun _ _ _ _ h => h⟩
theorem Cm.trans (h : Cm w w') (k : Cm w' w'') : Cm w w'' := ⟨k.os.trans h.os, k.tape.trans h.tape, k.output.trans h.output, Nat.le_trans h.size k.size, fun i c e f hi => k.cells i c e f (h.cells i c e f hi)⟩
theorem Cm.of_ext (h : Ext w w') : Cm w w' := ⟨h.os, h.tape, h.output, h.size, fun k c e f hk => (h.block k (Array.getElem?_eq_some_iff.1 hk).1).trans hk⟩
theorem Cm.of_map {κ : Type} {enc : κ → Value} {ok : κ → Prop} {b : Nat} {l : List (κ × Value)} (h : Kp [b] w w') (hm : MapAt enc ok w b l) : Cm w w' :=
  ⟨h.os, h.tape, h.output, h.size, fun k c e f hk => h.heap hk (by
    simp
    rintro rfl
    exact hm.cells hk)⟩
theorem cell_cells {a : Addr} {u : Value} (h : w.cell? a = some u) : ∃ c e f, w.heap[a.block]? = some (.cells c e f) := by
  unfold World.cell? at h
  split at h
  · rename_i c e f hh
    exact ⟨c, e, f, hh⟩
  · cases h
theorem Cm.cell (h : Cm w w') {a : Addr} {u : Value} (hc : w.cell? a = some u) : w'.cell? a = some u := by
  obtain ⟨c, e, f, hh⟩ := cell_cells hc
  rw [World.cell?_of_block (w := w) (w' := w') (a := a) ((h.cells _ _ _ _ hh).trans hh.symm)]
  exact hc
theorem Cm.rd (h : Cm w w') {A : Option Addr} {cs : List Value} (hr : Rd w A cs) : Rd w' A cs := hr.keep fun _ _ hc => h.cell hc
theorem Cm.row (h : Cm w w') {α : Type} {f : α → List Value} {v : Value} {xs : List α} (hr : Row f w v xs) : Row f w' v xs := by
  obtain ⟨A, n, c, h1, h2, h3, h4, h5⟩ := hr
  exact ⟨A, n, c, h1, h2, h3, h4, h.rd h5⟩
theorem Cm.txt (h : Cm w w') {v : Value} {xs : List ByteArray} (hr : Txt w v xs) : Txt w' v xs := by
  obtain ⟨A, n, c, h1, h2, h3, h4, h5⟩ := hr
  exact ⟨A, n, c, h1, h2, h3, h4, h.rd h5⟩
end

def updF {κ α : Type} [DecidableEq κ] (F : κ → Option α) (x : κ) (o : Option α) : κ → Option α := fun y => if y = x then o else F y
theorem mem_put {κ : Type} [DecidableEq κ] {l : List (κ × Value)} (hn : (l.map (·.1)).Nodup) (x : κ) (v : Value) (p : κ × Value) : p ∈ putL l x v ↔ p = (x, v) ∨ (p ∈ l ∧ p.1 ≠ x) := by
  unfold putL
  split
  · rename_i hs
    obtain ⟨v0, hv0⟩ := Option.isSome_iff_exists.1 hs
    have hm := lkp_mem hv0
    simp only [List.mem_map]
    constructor
    · rintro ⟨q, hq, rfl⟩
      by_cases h : q.1 = x
      · rw [if_pos h]; exact .inl rfl
      · rw [if_neg h]; exact .inr ⟨hq, h⟩
    · rintro (rfl | ⟨hp, hne⟩)
      · exact ⟨_, hm, if_pos rfl⟩
      · exact ⟨p, hp, if_neg hne⟩
  · rename_i hs
    have hnone := lkp_none_iff.1 (by simpa using hs)
    rw [List.mem_append, List.mem_singleton]
    constructor
    · rintro (hp | rfl)
      · exact .inr ⟨hp, hnone p hp⟩
      · exact .inl rfl
    · rintro (rfl | ⟨hp, _⟩)
      · exact .inr rfl
      · exact .inl hp

section
variable {κ α : Type} [DecidableEq κ] {P : Program} {k : TypeId} {enc : κ → Value} {ok : κ → Prop} {R : World → Value → α → Prop} {w w' : World} {b : Nat} {F : κ → Option α}
/-- Block b is a map; F tells what each key holds. -/
def MapV (enc : κ → Value) (ok : κ → Prop) (R : World → Value → α → Prop) (w : World) (b : Nat) (F : κ → Option α) : Prop :=
  ∃ l, MapAt enc ok w b l ∧ (∀ p ∈ l, ∃ a, F p.1 = some a ∧ R w p.2 a) ∧ ∀ x a, F x = some a → ∃ v, (x, v) ∈ l
theorem MapV.made (w : World) : MapV enc ok R (w.alloc (.map #[] 0)) w.heap.size (fun _ => none) := ⟨[], MapAt.made w, by simp, by simp⟩
theorem MapV.lt (h : MapV enc ok R w b F) : b < w.heap.size := by
  obtain ⟨l, h1, _⟩ := h
  exact h1.lt
theorem MapV.kp {L : List Nat} (h : MapV enc ok R w b F) (hR : ∀ w w' v a, Cm w w' → R w v a → R w' v a) (hk : Kp L w w') (hc : Cm w w') (hn : b ∉ L) : MapV enc ok R w' b F := by
  obtain ⟨l, h1, h2, h3⟩ := h
  exact ⟨l, h1.kp hk hn, fun p hp => by
    obtain ⟨a, e, hr⟩ := h2 p hp
    exact ⟨a, e, hR _ _ _ _ hc hr⟩, h3⟩
theorem MapV.ext (h : MapV enc ok R w b F) (hR : ∀ w w' v a, Cm w w' → R w v a → R w' v a) (hx : Ext w w') : MapV enc ok R w' b F := h.kp (L := []) hR (Kp.of_ext hx) (Cm.of_ext hx) (by simp)
theorem MapV.look {t e : TypeId} (h : MapV enc ok R w b F) (K : Ke P k enc ok) (ht : P.underlying t = some (.map k e)) {z : Value} (hz : ∀ w : World, (zeroValue e).run P w = .ok z w) (x : κ) (hx : ok x) :
    ∃ v, (∀ a, F x = some a → R w v a) ∧ (F x = none → v = z) ∧ ∀ w', Ext w w' → (Instr.lookup t (.map (some b)) (enc x) false).run P w' = .ok v w' ∧ (Instr.lookup t (.map (some b)) (enc x) true).run P w' = .ok (.tuple #[v, .bool (F x).isSome]) w' := by
  obtain ⟨l, h1, h2, h3⟩ := h
  refine ⟨(lkp l x).getD z, ?_, ?_, fun w' hw => ?_⟩
  · intro a ha
    obtain ⟨v, hv⟩ := h3 x a ha
    obtain ⟨a', ha', hr⟩ := h2 _ hv
    rw [lkp_some h1.nodup hv]
    simp only at ha'
    rw [ha] at ha'
    injection ha' with ha'
    rw [ha']
    exact hr
  · intro hn
    rw [lkp_none (fun p hp e => by
      obtain ⟨a, ha, _⟩ := h2 p hp
      rw [e, hn] at ha
      cases ha)]
    rfl
  · have hb : w'.heap[b]? = w.heap[b]? := hw.block b h1.lt
    have e2 : (lkp l x).isSome = (F x).isSome := by
      cases hF : F x with
      | none =>
        rw [lkp_none (fun p hp e => by
          obtain ⟨a, ha, _⟩ := h2 p hp
          rw [e, hF] at ha
          cases ha)]
        rfl
      | some a =>
        obtain ⟨v, hv⟩ := h3 x a hF
        rw [lkp_some h1.nodup hv]
        rfl
    have g1 := h1.lookup K ht hz x hx w' hb true
    have g2 := h1.lookup K ht hz x hx w' hb false
    rw [e2] at g1
    exact ⟨g2, g1⟩
theorem MapV.put {t e : TypeId} (h : MapV enc ok R w b F) (K : Ke P k enc ok) (ht : P.underlying t = some (.map k e)) (hR : ∀ w w' v a, Cm w w' → R w v a → R w' v a) (x : κ) (hx : ok x) (v : Value) (a : α) (hr : R w v a) :
    ∃ w', (Instr.mapUpdate t (.map (some b)) (enc x) v).run P w = .ok () w' ∧ MapV enc ok R w' b (updF F x (some a)) ∧ Kp [b] w w' ∧ Cm w w' := by
  obtain ⟨l, h1, h2, h3⟩ := h
  obtain ⟨w', hrun, hm, hk⟩ := h1.update K ht x v hx
  have hc := Cm.of_map hk h1
  refine ⟨w', hrun, ⟨_, hm, fun p hp => ?_, fun y c hy => ?_⟩, hk, hc⟩
  · rw [mem_put h1.nodup] at hp
    unfold updF
    rcases hp with rfl | ⟨hp, hne⟩
    · exact ⟨a, if_pos rfl, hR _ _ _ _ hc hr⟩
    · rw [if_neg hne]
      obtain ⟨c, hc1, hc2⟩ := h2 p hp
      exact ⟨c, hc1, hR _ _ _ _ hc hc2⟩
  · unfold updF at hy
    by_cases hyx : y = x
    · subst hyx
      exact ⟨v, (mem_put h1.nodup _ _ _).2 (.inl rfl)⟩
    · rw [if_neg hyx] at hy
      obtain ⟨u, hu⟩ := h3 y c hy
      exact ⟨u, (mem_put h1.nodup _ _ _).2 (.inr ⟨hu, hyx⟩)⟩
theorem MapV.del {t e : TypeId} (h : MapV enc ok R w b F) (K : Ke P k enc ok) (ht : P.underlying t = some (.map k e)) (hR : ∀ w w' v a, Cm w w' → R w v a → R w' v a) (x : κ) (hx : ok x) (ty : TypeId) :
    ∃ w', (Builtin.delete_ #[t, k] ty #[.map (some b), enc x]).run P w = .ok (.tuple #[]) w' ∧ MapV enc ok R w' b (updF F x none) ∧ Kp [b] w w' ∧ Cm w w' := by
  obtain ⟨l, h1, h2, h3⟩ := h
  obtain ⟨w', hrun, hm, hk⟩ := h1.delete K ht x hx ty
  have hc := Cm.of_map hk h1
  refine ⟨w', hrun, ⟨_, hm, fun p hp => ?_, fun y c hy => ?_⟩, hk, hc⟩
  · unfold delL at hp
    rw [List.mem_filter] at hp
    obtain ⟨hp, hne⟩ := hp
    unfold updF
    rw [if_neg (by simpa using hne)]
    obtain ⟨c, hc1, hc2⟩ := h2 p hp
    exact ⟨c, hc1, hR _ _ _ _ hc hc2⟩
  · unfold updF at hy
    by_cases hyx : y = x
    · rw [if_pos hyx] at hy
      cases hy
    · rw [if_neg hyx] at hy
      obtain ⟨u, hu⟩ := h3 y c hy
      exact ⟨u, by unfold delL; rw [List.mem_filter]; exact ⟨hu, by simpa using hyx⟩⟩
end
/-- A list that a map holds: none where it is empty. -/
def optL {α : Type} (l : List α) : Option (List α) := match l with | [] => none | _ => some l
theorem optL_some {α : Type} {l m : List α} (h : optL l = some m) : l = m := by
  cases l with
  | nil => cases h
  | cons a t => injection h
theorem optL_none {α : Type} {l : List α} (h : optL l = none) : l = [] := by
  cases l with
  | nil => rfl
  | cons a t => cases h
end Go.Proofs.Ytccjbmmhdbainaa
