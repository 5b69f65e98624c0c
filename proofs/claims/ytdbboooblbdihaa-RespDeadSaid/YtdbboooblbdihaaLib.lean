/- Words for memory that the proofs of this seat share: what a slice's address reads as, what keeps it, what append and the cutting of a slice do to it; of every program and every world. -/
import Derived.WalkKit
import Derived.WalkSpells
import Derived.WalkLawsBesides
import Derived.BigQuiet
import Derived.Lib.Hide
import Derived.Maps.AppendAt
import Derived.Deep.Draws
import Derived.Deep.AppendLies
import Derived.Deep.RegionHeld3
import Derived.Deep.DrawnRows
namespace Go.Proofs.Ytdbboooblbdihaa
open Go.RowKit

theorem add_block (a : Addr) (n : Nat) : (a.add n).block = a.block := by unfold Addr.add; split <;> rfl
theorem add_add (a : Addr) (i j : Nat) : (a.add i).add j = a.add (i + j) := by
  unfold Addr.add
  by_cases hi : i = 0 <;> by_cases hj : j = 0 <;> simp [hi, hj, Nat.add_assoc]
theorem add_at (b i : Nat) : (⟨b, 0, none⟩ : Addr).add i = ⟨b, i, none⟩ := by
  unfold Addr.add
  by_cases hi : i = 0 <;> simp [hi]

/-- From the address A on the cells cs lie, one behind the other. -/
def Rd (w : World) (A : Option Addr) (cs : List Value) : Prop :=
  cs ≠ [] → ∃ ad, A = some ad ∧ ∀ j u, cs[j]? = some u → w.cell? (ad.add j) = some u

/-- All that was there is there as it was. -/
def Ext (w w' : World) : Prop := Below w.heap.size w w'

section
variable {w w' w'' : World} {A : Option Addr} {cs : List Value} {B : Nat}

theorem Ext.refl (w : World) : Ext w w := Below.refl _ _
theorem Ext.trans (h : Ext w w') (k : Ext w' w'') : Ext w w'' := Below.trans h (Below.mono k h.size)
theorem Ext.drewN (n : Nat) (w : World) : Ext w (w.drewN n) := below_drewN (Below.refl _ _) n
theorem Ext.drew (w : World) : Ext w w.drew := Below.drew (Below.refl _ _)
theorem Ext.alloc (w : World) (o : Obj) : Ext w (w.alloc o) := Below.alloc (Below.refl _ _) (Nat.le_refl _) o
theorem Ext.to_below (h : Ext w w') (hB : B ≤ w.heap.size) : Below B w w' := Below.mono h hB
theorem Ext.of_grown {row : Option Nat} (hg : w.grownBy w' row) (hr : ∀ k, row = some k → w.heap.size ≤ k) : Ext w w' :=
  (Below.refl _ _).grown hg (Nat.le_refl _) hr
theorem Ext.cell {p : Addr} {u : Value} (h : Ext w w') (hc : w.cell? p = some u) : w'.cell? p = some u :=
  (Below.cell h (World.block_lt_of_cell? w p hc)).trans hc
theorem below_ext (h : Below B w w') (k : Ext w' w'') (hB : B ≤ w'.heap.size) : Below B w w'' := h.trans (k.to_below hB)

theorem Rd.nil (w : World) (A : Option Addr) : Rd w A [] := fun h => absurd rfl h
theorem Rd.keep (h : Rd w A cs) (hk : ∀ p u, w.cell? p = some u → w'.cell? p = some u) : Rd w' A cs := fun hn => by
  obtain ⟨ad, e, hc⟩ := h hn
  exact ⟨ad, e, fun j u hu => hk _ _ (hc j u hu)⟩
theorem Rd.ext (h : Rd w A cs) (hb : Ext w w') : Rd w' A cs := h.keep fun _ _ hc => hb.cell hc
theorem Rd.below (h : Rd w A cs) (hb : Below B w w') (hB : w.heap.size ≤ B) : Rd w' A cs := h.ext (Below.mono hb hB)
theorem Rd.drewN (h : Rd w A cs) (n : Nat) : Rd (w.drewN n) A cs := h
theorem Rd.drew (h : Rd w A cs) : Rd w.drew A cs := h
theorem Rd.alloc (h : Rd w A cs) (o : Obj) : Rd (w.alloc o) A cs := h.ext (Ext.alloc w o)
theorem Rd.at_ (h : Rd w A cs) {k : Nat} {u : Value} (hk : cs[k]? = some u) : ∃ ad, A = some ad ∧ w.cell? (ad.add k) = some u := by
  obtain ⟨ad, e, hc⟩ := h (by intro e; rw [e] at hk; simp at hk)
  exact ⟨ad, e, hc k u hk⟩
theorem Rd.some_ (h : Rd w A cs) (hn : 0 < cs.length) : ∃ ad, A = some ad ∧ ∀ j u, cs[j]? = some u → w.cell? (ad.add j) = some u :=
  h (by intro e; rw [e] at hn; simp at hn)

/-- A slice that is cut at its beginning: the address as the model tells it. -/
theorem Rd.cut (h : Rd w A cs) {n k size cap : Nat} (hl : cs.length = n * size) (hc : n ≤ cap) :
    Rd w (if cap = k then A else A.map (·.add (k * size))) (cs.drop (k * size)) := fun hn => by
  have hlt : k * size < cs.length := by
    rcases Nat.lt_or_ge (k * size) cs.length with h | h
    · exact h
    · exact absurd (List.drop_of_length_le h) hn
  obtain ⟨ad, rfl, hcell⟩ := h.some_ (by omega)
  have hkn : k < n := by
    rcases Nat.lt_or_ge k n with h | h
    · exact h
    · have := Nat.mul_le_mul_right size h; omega
  rw [if_neg (by omega)]
  refine ⟨ad.add (k * size), rfl, fun j u hu => ?_⟩
  rw [add_add]
  exact hcell _ u (by rw [← hu, List.getElem?_drop])

theorem Rd.take (h : Rd w A cs) (k : Nat) : Rd w A (cs.take k) := fun hn => by
  obtain ⟨ad, e, hc⟩ := h (by rintro rfl; simp at hn)
  refine ⟨ad, e, fun j u hu => hc j u ?_⟩
  rw [List.getElem?_take] at hu
  split at hu
  · exact hu
  · simp at hu

theorem Rd.drop_at {ad : Addr} {n : Nat} (h : Rd w (some ad) cs) (hl : n < cs.length) : Rd w (some (ad.add n)) (cs.drop n) := fun _ => by
  obtain ⟨ad', e, hcell⟩ := h.some_ (by omega)
  cases e
  refine ⟨_, rfl, fun j u hu => ?_⟩
  rw [add_add]
  exact hcell _ u (by rw [← hu, List.getElem?_drop])

theorem Rd.own {base e size n c : Nat} (h : w.ownsRow base e size (.slice A n c) n cs) : Rd w A cs := fun hn => by
  rcases h.2 with ⟨hv, h0⟩ | ⟨g, cap, cur, hv, _, hh, _⟩
  · have := h.1
    rw [h0, Nat.zero_mul] at this
    exact absurd (List.eq_nil_of_length_eq_zero this) hn
  · injection hv with hA
    subst hA
    exact ⟨_, rfl, World.ownsRow.cells (g := g) h rfl⟩

theorem Rd.new (w : World) (cs : Array Value) (t : TypeId) : Rd (w.alloc (.cells cs t)) (some ⟨w.heap.size, 0, none⟩) cs.toList := fun _ => by
  refine ⟨_, rfl, fun j u hu => ?_⟩
  rw [add_at, World.cell?_alloc_new]
  simpa using hu
end

/-- A slice that is cut at its beginning: the new address stays a letter. -/
theorem cut_from {P : Program} {w : World} {A : Option Addr} {cs : List Value} (t e : TypeId) (i : TypeInfo) (size : Nat) (ht : P.underlying t = some (.slice e)) (hi : P.info? e = some i) (hsz : i.size = size)
    {n c : Nat} (h : Rd w A cs) (hl : cs.length = n * size) (hc : n ≤ c) (k : Nat) (ki : Int) (hki : ki = (k : Int)) (hk : k ≤ n) :
    ∃ A', Rd w A' (cs.drop (k * size)) ∧ ∀ w', (Instr.slice t (.slice A n c) (some (.int .i64 ki)) none none).run P w' = .ok (.slice A' (n - k) (c - k)) w' := by
  subst hki
  refine ⟨_, h.cut hl hc, fun w' => ?_⟩
  have he : P.elem t = e := by simp [Program.elem, ht]
  rw [run_slice_l w' t A n c (by rw [he]; exact ht) .i64 (k : Int) (by omega) (by omega), he]
  simp [sizeOf, typeInfo, hi, sliced, hsz]

/-- A slice that is cut at its end. -/
theorem cut_upto {P : Program} {w : World} {A : Option Addr} {cs : List Value} (t e : TypeId) (i : TypeInfo) (size : Nat) (ht : P.underlying t = some (.slice e)) (hi : P.info? e = some i) (hsz : i.size = size)
    {n c : Nat} (h : Rd w A cs) (hc : n ≤ c) (k : Nat) (ki : Int) (hki : ki = (k : Int)) (hk : k ≤ n) :
    ∃ A', Rd w A' (cs.take (k * size)) ∧ ∀ w', (Instr.slice t (.slice A n c) none (some (.int .i64 ki)) none).run P w' = .ok (.slice A' k c) w' := by
  subst hki
  have he : P.elem t = e := by simp [Program.elem, ht]
  have hrun : ∀ w', (Instr.slice t (.slice A n c) none (some (.int .i64 (k : Int))) none).run P w' = .ok (.slice (if c = 0 then A else A.map (·.add (0 * size))) k c) w' := fun w' => by
    rw [run_slice_h w' t A n c (by rw [he]; exact ht) .i64 (k : Int) (by omega) (by omega), he]
    simp [sizeOf, typeInfo, hi, sliced, hsz]
  have hA : (if c = 0 then A else A.map (·.add (0 * size))) = A := by
    split
    · rfl
    · cases A <;> simp [Addr.add]
  exact ⟨A, h.take _, fun w' => by rw [hrun w', hA]⟩

/-! ### append onto a slice of the call's own, the source whatever reads as a list -/
section
variable {P : Program} (w : World)

theorem run_append_void (base : Nat) (t ty e : TypeId) (i : TypeInfo) (size : Nat) (ht : P.underlying t = some (.slice e)) (hi : P.info? e = some i)
    (v : Value) (n : Nat) (xs : List Value) (hown : w.ownsRow base e size v n xs) (c : Nat) : (Builtin.append_ #[t, t] ty #[v, .slice none 0 c]).run P w = .ok v w := by
  rcases hown.2 with ⟨rfl, rfl⟩ | ⟨g, cap, cur, rfl, _, _, hnc, _⟩
  · simp [Builtin.append_, run_underlying ht, sizeOf, typeInfo, hi, Builtin.lenOf, Builtin.firstCells]
  · simp [Builtin.append_, run_underlying ht, sizeOf, typeInfo, hi, Builtin.lenOf, Builtin.firstCells, hnc, storeCells]

/-- What an append onto a row of the call's own leaves: the row, only that row or a new one written. -/
structure Appended (w w' : World) (base : Nat) (e size : Nat) (v v' : Value) (n : Nat) (xs : List Value) : Prop where
  own : w'.ownsRow base e size v' n xs
  grown : w.grownBy w' v.ownBlock
  lies : v'.ownBlock = v.ownBlock ∨ v'.ownBlock = some w.heap.size

theorem Appended.below {w w' w0 : World} {base e size n B : Nat} {v v' : Value} {xs : List Value} (h : Appended w w' base e size v v' n xs) (hb : Below B w0 w) (hB : B ≤ w.heap.size)
    (hv : ∀ k, v.ownBlock = some k → B ≤ k) : Below B w0 w' := hb.grown h.grown hB hv

theorem run_append_rd (base : Nat) (t ty e : TypeId) (i : TypeInfo) (z : Value) (size bytes : Nat) (ht : P.underlying t = some (.slice e)) (hi : P.info? e = some i) (hz : i.zero = some z)
    (hsize : i.size = size) (hby : i.bytes = bytes) (hzs : z.cells.size = size) (hsz : 0 < size)
    (v : Value) (n : Nat) (xs : List Value) (hown : w.ownsRow base e size v n xs)
    (A : Option Addr) (m c : Nat) (news : List Value) (hl : news.length = m * size) (hr : Rd w A news) (h1 : ∀ u ∈ news, u.oneCell' = true)
    (h63 : n + m ≤ maxLen) (hbytes : (n + m) * bytes ≤ 140737488355328) (hbase : base ≤ w.heap.size) :
    ∃ v' w', (Builtin.append_ #[t, t] ty #[v, .slice A m c]).run P w = .ok v' w' ∧ Appended w w' base e size v v' (n + m) (xs ++ news) := by
  rcases Nat.eq_zero_or_pos m with h0 | h0
  · subst h0
    have hn : news = [] := List.eq_nil_of_length_eq_zero (by simpa using hl)
    subst hn
    rcases A with _ | ad
    · exact ⟨v, w, run_append_void w base t ty e i size ht hi v n xs hown c, by simpa using hown, World.grownBy.refl w _, .inl rfl⟩
    · obtain ⟨v', w', hrun, h2, h3, _, h5⟩ := run_append_own_at (P := P) w base t ty e i z size bytes ht hi hz hsize hby hzs hsz v n xs hown ad 0 c [] hl (by simp) h1 h63 hbytes hbase
      exact ⟨v', w', hrun, h2, h3, h5⟩
  · obtain ⟨ad, rfl, hc⟩ := hr.some_ (by rw [hl]; exact Nat.mul_pos h0 hsz)
    obtain ⟨v', w', hrun, h2, h3, _, h5⟩ := run_append_own_at (P := P) w base t ty e i z size bytes ht hi hz hsize hby hzs hsz v n xs hown ad m c news hl hc h1 h63 hbytes hbase
    exact ⟨v', w', hrun, h2, h3, h5⟩

theorem wp_append_rd {o : Oper} {a : Act} {K : Act → World → Prop} {Q : Exit → Act → World → Prop} (s x : Operand) (t : TypeId)
    (ho : o.op = .call { callee := .builtin .append, args := #[s, x], argTypes := #[t, t] })
    (base : Nat) (e : TypeId) (i : TypeInfo) (z : Value) (size bytes : Nat) (ht : P.underlying t = some (.slice e)) (hi : P.info? e = some i) (hz : i.zero = some z)
    (hsize : i.size = size) (hby : i.bytes = bytes) (hzs : z.cells.size = size) (hsz : 0 < size)
    (v : Value) (n : Nat) (xs : List Value) (hs : a.eval s = v) (hown : w.ownsRow base e size v n xs)
    (A : Option Addr) (m c : Nat) (news : List Value) (hx : a.eval x = .slice A m c) (hl : news.length = m * size) (hr : Rd w A news) (h1 : ∀ u ∈ news, u.oneCell' = true)
    (h63 : n + m ≤ maxLen) (hbytes : (n + m) * bytes ≤ 140737488355328) (hbase : base ≤ w.heap.size)
    (h : ∀ v' w', Appended w w' base e size v v' (n + m) (xs ++ news) → K (a.put o.dst v') w') : o.wp P a w K Q := by
  obtain ⟨v', w', hrun, h2⟩ := run_append_rd (P := P) w base t o.type e i z size bytes ht hi hz hsize hby hzs hsz v n xs hown A m c news hl hr h1 h63 hbytes hbase
  unfold Oper.wp execOp
  simp only [ho, resolve, invoke, builtin, Sem.run_bind, Sem.run_pure, Result.andThen_ok, List.map_toArray, List.map_cons, List.map_nil, hs, hx, hrun]
  exact h v' w' h2

theorem wpList_append_rd {ops : Array Oper} {rest : List Oper} {o : Oper} {a : Act} {Q : Exit → Act → World → Prop} (hgd : o.guard = none) (s x : Operand) (t : TypeId)
    (ho : o.op = .call { callee := .builtin .append, args := #[s, x], argTypes := #[t, t] })
    (base : Nat) (e : TypeId) (i : TypeInfo) (z : Value) (size bytes : Nat) (ht : P.underlying t = some (.slice e)) (hi : P.info? e = some i) (hz : i.zero = some z)
    (hsize : i.size = size) (hby : i.bytes = bytes) (hzs : z.cells.size = size) (hsz : 0 < size)
    (v : Value) (n : Nat) (xs : List Value) (hs : a.eval s = v) (hown : w.ownsRow base e size v n xs)
    (A : Option Addr) (m c : Nat) (news : List Value) (hx : a.eval x = .slice A m c) (hl : news.length = m * size) (hr : Rd w A news) (h1 : ∀ u ∈ news, u.oneCell' = true)
    (h63 : n + m ≤ maxLen) (hbytes : (n + m) * bytes ≤ 140737488355328) (hbase : base ≤ w.heap.size)
    (h : ∀ v' w', Appended w w' base e size v v' (n + m) (xs ++ news) → wpList P ops Q rest (a.put o.dst v') w') : wpList P ops Q (o :: rest) a w :=
  wpList_plain hgd fun _ hK => wp_append_rd w s x t ho base e i z size bytes ht hi hz hsize hby hzs hsz v n xs hs hown A m c news hx hl hr h1 h63 hbytes hbase fun v' w' h2 => hK _ _ (h v' w' h2)
end

theorem Ext.alloc_ {w0 w : World} (h : Ext w0 w) (o : Obj) : Ext w0 (w.alloc o) := Below.alloc h h.size o
theorem Ext.drewN_ {w0 w : World} (h : Ext w0 w) (q : Nat) : Ext w0 (w.drewN q) := below_drewN h q
theorem Ext.drew_ {w0 w : World} (h : Ext w0 w) : Ext w0 w.drew := Below.drew h
theorem Rd.ext_ {w0 w1 w : World} {A : Option Addr} {cs : List Value} (h : Rd w0 A cs) (h1 : Ext w0 w1) (h2 : Ext w1 w) : Rd w A cs := h.ext (h1.trans h2)

/-- A callee that draws, met in a region that draws. -/
theorem quiet_drawn {P : Program} {f : FuncId} {args : Array Value} {w : World} {n : Nat} {v : Value}
    (h : Calls P f args (w.drewN n) fun e w' => e = .returned v ∧ ∃ m, w' = (w.drewN n).drewN m) : Calls P f args (w.drewN n) fun e w'' => e = .returned v ∧ ∃ m, w'' = w.drewN m :=
  h.mono fun _ _ ⟨he, m, hm⟩ => ⟨he, n + m, by rw [hm, World.drewN_drewN]⟩
theorem quiet_drawn_add {P : Program} {f : FuncId} {args : Array Value} {w : World} {a n : Nat} {v : Value}
    (h : Calls P f args (w.drewN (a + n)) fun e w' => e = .returned v ∧ ∃ m, w' = (w.drewN (a + n)).drewN m) : Calls P f args (w.drewN (a + n)) fun e w'' => e = .returned v ∧ ∃ m, w'' = w.drewN (a + m) :=
  h.mono fun _ _ ⟨he, m, hm⟩ => ⟨he, n + m, by rw [hm, World.drewN_drewN, Nat.add_assoc]⟩
theorem quiet_same_add {P : Program} {f : FuncId} {args : Array Value} {w : World} {a n : Nat} {v : Value}
    (h : Calls P f args (w.drewN (a + n)) fun e w' => e = .returned v ∧ w.drewN (a + n) = w') : Calls P f args (w.drewN (a + n)) fun e w'' => e = .returned v ∧ ∃ m, w'' = w.drewN (a + m) :=
  h.mono fun _ _ ⟨he, hm⟩ => ⟨he, n, hm.symm⟩
theorem quiet_same {P : Program} {f : FuncId} {args : Array Value} {w : World} {n : Nat} {v : Value}
    (h : Calls P f args (w.drewN n) fun e w' => e = .returned v ∧ w.drewN n = w') : Calls P f args (w.drewN n) fun e w'' => e = .returned v ∧ ∃ m, w'' = w.drewN m :=
  h.mono fun _ _ ⟨he, hm⟩ => ⟨he, n, hm.symm⟩

theorem ret_bool {a b : Bool} (h : a = b) : Ending.returned (.bool a) = Ending.returned (.bool b) := by rw [h]
theorem ret_int {k : IntKind} {a b : Int} (h : a = b) : Ending.returned (.int k a) = .returned (.int k b) := by rw [h]

end Go.Proofs.Ytdbboooblbdihaa
