/- Words for memory that turns: which blocks may have changed (new ones from B on, of the element types in S), and what stays. -/
import Derived.Test.YtdbboooblbdihaaLib
namespace Go.Proofs.Ytdbboooblbdihaa
open Go.RowKit

/-- Block k holds cells of an element type in S. -/
def ofType (S : List TypeId) (w : World) (k : Nat) : Prop := ∃ c e f, w.heap[k]? = some (.cells c e f) ∧ e ∈ S

/-- Between w and w' only blocks from B on, with cells of a type in S, may have changed; new ones may have come. -/
structure Chg (B : Nat) (S : List TypeId) (w w' : World) : Prop where
  os : w'.os = w.os
  tape : w'.tape = w.tape
  output : w'.output = w.output
  size : w.heap.size ≤ w'.heap.size
  block : ∀ k, k < w.heap.size → (k < B ∨ ¬ ofType S w k) → w'.heap[k]? = w.heap[k]?

section
variable {B : Nat} {S S' : List TypeId} {w w' w'' : World}

theorem Chg.refl (B : Nat) (S : List TypeId) (w : World) : Chg B S w w := ⟨rfl, rfl, rfl, Nat.le_refl _, fun _ _ _ => rfl⟩
theorem Chg.trans (h : Chg B S w w') (k : Chg B S w' w'') : Chg B S w w'' :=
  ⟨k.os.trans h.os, k.tape.trans h.tape, k.output.trans h.output, Nat.le_trans h.size k.size, fun i hi hc => by
    have h1 := h.block i hi hc
    refine (k.block i (Nat.lt_of_lt_of_le hi h.size) ?_).trans h1
    rcases hc with hc | hc
    · exact .inl hc
    · exact .inr (fun ⟨c, e, f, hh, he⟩ => hc ⟨c, e, f, by rw [← h1]; exact hh, he⟩)⟩
theorem Chg.mono (h : Chg B S w w') (hS : ∀ e ∈ S, e ∈ S') : Chg B S' w w' :=
  ⟨h.os, h.tape, h.output, h.size, fun i hi hc => h.block i hi (hc.imp id fun hn ⟨c, e, f, hh, he⟩ => hn ⟨c, e, f, hh, hS e he⟩)⟩
theorem Chg.lower {B' : Nat} (h : Chg B S w w') (hB : B' ≤ B) : Chg B' S w w' :=
  ⟨h.os, h.tape, h.output, h.size, fun i hi hc => h.block i hi (hc.imp (fun h => Nat.lt_of_lt_of_le h hB) id)⟩
theorem Chg.of_ext (h : Ext w w') : Chg B S w w' := ⟨h.os, h.tape, h.output, h.size, fun i hi _ => h.block i hi⟩
theorem Chg.ext (h : Chg w.heap.size S w w') : Ext w w' := ⟨h.os, h.tape, h.output, h.size, fun i hi => h.block i hi (.inl hi)⟩
theorem Chg.then (h : Chg B S w w') (k : Ext w' w'') : Chg B S w w'' := h.trans (Chg.of_ext k)
theorem Chg.drewN (h : Chg B S w w') (q : Nat) : Chg B S w (w'.drewN q) := h.then (Ext.drewN q w')
theorem Chg.drew (h : Chg B S w w') : Chg B S w w'.drew := h.then (Ext.drew w')
theorem Chg.alloc (h : Chg B S w w') (o : Obj) : Chg B S w (w'.alloc o) := h.then (Ext.alloc w' o)
/-- Nothing of old memory has changed, if all of it lies below B. -/
theorem Chg.to_ext (h : Chg B S w w') (hB : w.heap.size ≤ B) : Ext w w' := ⟨h.os, h.tape, h.output, h.size, fun i hi => h.block i hi (.inl (by omega))⟩

/-- A store into a block of a type in S. -/
theorem Chg.store {g i : Nat} {cs : Array Value} {e : TypeId} {f : Nat × Nat} (u : Value) (hg : w.heap[g]? = some (.cells cs e f)) (he : e ∈ S) (hB : B ≤ g) : Chg B S w (w.setCell ⟨g, i, none⟩ u) :=
  ⟨rfl, rfl, rfl, by simp, fun k hk hc => Below.heap_setCell _ _ _ _ (by
    rintro rfl
    rcases hc with hc | hc
    · show False; exact absurd hB (by simpa using hc)
    · exact hc ⟨cs, e, f, hg, he⟩)⟩
/-- What append leaves of a row of a type in S. -/
theorem Chg.grown {row : Option Nat} (hg : w.grownBy w' row) (hr : ∀ k, row = some k → B ≤ k ∧ ofType S w k) : Chg B S w w' :=
  ⟨hg.os, hg.tape, hg.output, hg.size, fun k hk hc => hg.block k hk (fun e => by
    obtain ⟨h1, h2⟩ := hr k e.symm
    rcases hc with hc | hc
    · omega
    · exact hc h2)⟩

theorem Chg.heap_low (h : Chg B S w w') {k : Nat} {o : Obj} (hk : w.heap[k]? = some o) (hB : k < B) : w'.heap[k]? = some o :=
  (h.block k (Array.getElem?_eq_some_iff.1 hk).1 (.inl hB)).trans hk
theorem Chg.heap_type (h : Chg B S w w') {k : Nat} {c : Array Value} {e : TypeId} {f : Nat × Nat} (hk : w.heap[k]? = some (.cells c e f)) (he : e ∉ S) : w'.heap[k]? = some (.cells c e f) :=
  (h.block k (Array.getElem?_eq_some_iff.1 hk).1 (.inr (fun ⟨c', e', f', hh, he'⟩ => by
    rw [hk] at hh
    injection hh with hh
    injection hh with _ h2 _
    subst h2
    exact he he'))).trans hk

theorem Rd.chg {A : Option Addr} {cs : List Value} (h : Rd w A cs) (hc : Chg B S w w') (hA : ∀ ad, A = some ad → cs ≠ [] → ad.block < B) : Rd w' A cs := fun hn => by
  obtain ⟨ad, e, hcell⟩ := h hn
  refine ⟨ad, e, fun j u hu => ?_⟩
  have h1 := hcell j u hu
  have hlt := World.block_lt_of_cell? w _ h1
  rw [add_block] at hlt
  rw [World.cell?_of_block (w := w) (w' := w') (a := ad.add j) (by rw [add_block]; exact hc.block _ hlt (.inl (hA ad e hn)))]
  exact h1

/-- A row that the call owns stays owned, where its element type is none of those that turn. -/
theorem own_chg {base size n : Nat} {e : TypeId} {v : Value} {xs : List Value} (h : w.ownsRow base e size v n xs) (hc : Chg B S w w') (he : e ∉ S) : w'.ownsRow base e size v n xs := by
  refine ⟨h.1, ?_⟩
  rcases h.2 with hn | ⟨g, cap, cur, rfl, hb, hgg, rest⟩
  · exact .inl hn
  · exact .inr ⟨g, cap, cur, rfl, hb, hc.heap_type hgg he, rest⟩

theorem own_type {base size n : Nat} {e : TypeId} {v : Value} {xs : List Value} (h : w.ownsRow base e size v n xs) (he : e ∈ S) : ∀ k, v.ownBlock = some k → base ≤ k ∧ ofType S w k := by
  intro k hk
  rcases h.2 with ⟨rfl, _⟩ | ⟨g, cap, cur, rfl, hb, hgg, _⟩
  · simp [Value.ownBlock] at hk
  · simp [Value.ownBlock] at hk
    subst hk
    exact ⟨hb, cur, e, (0, 0), hgg, he⟩
theorem Appended.chg {base e size n m : Nat} {v v' : Value} {xs ys : List Value} (h : Appended w w' base e size v v' n xs) (ho : w.ownsRow base e size v m ys) (he : e ∈ S) (hB : B ≤ base) : Chg B S w w' :=
  Chg.grown h.grown fun k hk => by
    obtain ⟨h1, h2⟩ := own_type ho he k hk
    exact ⟨by omega, h2⟩
end

/-- Two blocks of different element types are two. -/
theorem blocks_ne {w : World} {g g' : Nat} {c c' : Array Value} {e e' : TypeId} {f f' : Nat × Nat} (h : w.heap[g]? = some (.cells c e f)) (h' : w.heap[g']? = some (.cells c' e' f')) (hne : e ≠ e') : g ≠ g' := by
  rintro rfl
  rw [h] at h'
  injection h' with h'
  injection h' with _ h2 _
  exact hne h2
theorem heap_cell {w : World} {g : Nat} {c : Array Value} {e : TypeId} {f : Nat × Nat} (h : w.heap[g]? = some (.cells c e f)) (i : Nat) : w.cell? ⟨g, i, none⟩ = c[i]? := cell_of_row w g i c e f h
theorem heap_frozen {w : World} {g : Nat} {c : Array Value} {e : TypeId} (h : w.heap[g]? = some (.cells c e (0, 0))) (i : Nat) : w.frozen? ⟨g, i, none⟩ = false := frozen_of_row w g i c e h

/-- append of at least one element: the new slice is written out. -/
theorem wpList_append_at {P : Program} (w : World) {ops : Array Oper} {rest : List Oper} {o : Oper} {a : Act} {Q : Exit → Act → World → Prop} (hgd : o.guard = none) (s x : Operand) (t : TypeId)
    (ho : o.op = .call { callee := .builtin .append, args := #[s, x], argTypes := #[t, t] })
    (base : Nat) (e : TypeId) (i : TypeInfo) (z : Value) (size bytes : Nat) (ht : P.underlying t = some (.slice e)) (hi : P.info? e = some i) (hz : i.zero = some z)
    (hsize : i.size = size) (hby : i.bytes = bytes) (hzs : z.cells.size = size) (hsz : 0 < size)
    (v : Value) (n : Nat) (xs : List Value) (hs : a.eval s = v) (hown : w.ownsRow base e size v n xs)
    (A : Option Addr) (m c : Nat) (news : List Value) (hx : a.eval x = .slice A m c) (hl : news.length = m * size) (hr : Rd w A news) (h1 : ∀ u ∈ news, u.oneCell' = true)
    (h63 : n + m ≤ maxLen) (hbytes : (n + m) * bytes ≤ 140737488355328) (hbase : base ≤ w.heap.size) (hm : 0 < m)
    (h : ∀ r cap w', Appended w w' base e size v (.slice (some ⟨r, 0, none⟩) (n + m) cap) (n + m) (xs ++ news) → base ≤ r → n + m ≤ cap → cap ≤ maxLen → wpList P ops Q rest (a.put o.dst (.slice (some ⟨r, 0, none⟩) (n + m) cap)) w') :
    wpList P ops Q (o :: rest) a w :=
  wpList_append_rd w hgd s x t ho base e i z size bytes ht hi hz hsize hby hzs hsz v n xs hs hown A m c news hx hl hr h1 h63 hbytes hbase fun v' w' h2 => by
    rcases h2.own.2 with ⟨_, h0⟩ | ⟨r, cap, cur, rfl, hb, _, hnc, hcm, _⟩
    · omega
    · exact h r cap w' h2 hb hnc hcm

theorem own_ne {w : World} {base size n g : Nat} {e e' : TypeId} {v : Value} {xs : List Value} {c : Array Value} {f : Nat × Nat} (h : w.ownsRow base e size v n xs) (hg : w.heap[g]? = some (.cells c e' f)) (hne : e ≠ e') : v.ownBlock ≠ some g := by
  intro hk
  rcases h.2 with ⟨rfl, _⟩ | ⟨r, cap, cur, rfl, _, hh, _⟩
  · simp [Value.ownBlock] at hk
  · simp [Value.ownBlock] at hk
    subst hk
    exact blocks_ne hh hg hne rfl
theorem own_heap {w : World} {base size n r cap : Nat} {e : TypeId} {xs : List Value} (h : w.ownsRow base e size (.slice (some ⟨r, 0, none⟩) n cap) n xs) : ∃ cur, w.heap[r]? = some (.cells cur e (0, 0)) := by
  rcases h.2 with ⟨hv, _⟩ | ⟨g, cap', cur, hv, _, hh, _⟩
  · cases hv
  · injection hv with h1
    injection h1 with h1
    injection h1 with h1
    subst h1
    exact ⟨cur, hh⟩

/-- A row that the call owns is a slice. -/
theorem own_slice {w : World} {base size n : Nat} {e : TypeId} {v : Value} {xs : List Value} (h : w.ownsRow base e size v n xs) : ∃ A c, v = .slice A n c ∧ n ≤ c ∧ c ≤ maxLen ∧ Rd w A xs := by
  rcases h.2 with ⟨rfl, rfl⟩ | ⟨g, cap, cur, rfl, _, _, hnc, hcm, _⟩
  · have : xs = [] := List.eq_nil_of_length_eq_zero (by rw [h.1]; simp)
    subst this
    exact ⟨none, 0, rfl, by omega, by simp [maxLen], Rd.nil _ _⟩
  · exact ⟨_, cap, rfl, hnc, hcm, Rd.own h⟩

end Go.Proofs.Ytdbboooblbdihaa
