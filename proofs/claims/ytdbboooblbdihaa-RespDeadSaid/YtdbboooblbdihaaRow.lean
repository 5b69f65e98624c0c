/- Slices of structs: k cells an element, as f gives them. -/
import Derived.Test.YtdbboooblbdihaaMem
namespace Go.Proofs.Ytdbboooblbdihaa
open Go.RowKit
set_option linter.unusedVariables false

section
variable {α : Type} {f : α → List Value} {k : Nat}

theorem flat_length (hf : ∀ x, (f x).length = k) : ∀ (xs : List α), (xs.flatMap f).length = xs.length * k
  | [] => by simp
  | x :: xs => by rw [List.flatMap_cons, List.length_append, hf, flat_length hf xs, List.length_cons, Nat.add_mul]; omega
theorem flat_get (hf : ∀ x, (f x).length = k) : ∀ (xs : List α) (i j : Nat), j < k → (xs.flatMap f)[i * k + j]? = (xs[i]?).bind fun x => (f x)[j]?
  | [], i, j, _ => by simp
  | x :: xs, 0, j, hj => by
    rw [List.flatMap_cons, Nat.zero_mul, Nat.zero_add, List.getElem?_append_left (by rw [hf]; exact hj)]
    simp
  | x :: xs, i + 1, j, hj => by
    rw [List.flatMap_cons, List.getElem?_append_right (by rw [hf, Nat.add_mul]; omega), hf, show (i + 1) * k + j - k = i * k + j by rw [Nat.add_mul]; omega, flat_get hf xs i j hj]
    simp
theorem flat_take (hf : ∀ x, (f x).length = k) (xs : List α) (n : Nat) (h : n ≤ xs.length) : (xs.flatMap f).take (n * k) = (xs.take n).flatMap f := by
  have h1 : (xs.take n).flatMap f ++ (xs.drop n).flatMap f = xs.flatMap f := by rw [← List.flatMap_append, List.take_append_drop]
  have h2 : ((xs.take n).flatMap f).length = n * k := by rw [flat_length hf, List.length_take, Nat.min_eq_left h]
  rw [← h1, List.take_append_of_le_length (by omega), List.take_of_length_le (by omega)]

/-- A slice of structs. -/
def Row (f : α → List Value) (w : World) (v : Value) (xs : List α) : Prop := ∃ A n c, v = .slice A n c ∧ xs.length = n ∧ n ≤ c ∧ c ≤ maxLen ∧ Rd w A (xs.flatMap f)

variable {w w' : World} {v : Value} {xs : List α}
theorem Row.ext (h : Row f w v xs) (hb : Ext w w') : Row f w' v xs := by
  obtain ⟨A, n, c, h1, h2, h3, h4, h5⟩ := h
  exact ⟨A, n, c, h1, h2, h3, h4, h5.ext hb⟩
theorem row_cell {ad : Addr} (hf : ∀ x, (f x).length = k) (h : Rd w (some ad) (xs.flatMap f)) (i j : Nat) {x : α} {u : Value} (hx : xs[i]? = some x) (hu : (f x)[j]? = some u) : w.cell? (ad.add (i * k + j)) = some u := by
  have hj : j < k := by rw [← hf x]; exact (List.getElem?_eq_some_iff.1 hu).1
  have hg : (xs.flatMap f)[i * k + j]? = some u := by rw [flat_get hf xs i j hj, hx]; exact hu
  obtain ⟨ad', he, hc⟩ := h (by intro hn; simp [hn] at hg)
  injection he with he
  subst he
  exact hc _ u hg
theorem row_some {A : Option Addr} (h : Rd w A (xs.flatMap f)) (hf : ∀ x, (f x).length = k) (hk : 0 < k) (hn : 0 < xs.length) : ∃ ad, A = some ad := by
  obtain ⟨ad, he, _⟩ := h (by
    intro h0
    have := flat_length hf xs
    rw [h0] at this
    have h1 : 0 < xs.length * k := Nat.mul_pos hn hk
    simp at this; omega)
  exact ⟨ad, he⟩
theorem own_row {base : Nat} {e : TypeId} (h : w.ownsRow base e k v xs.length (xs.flatMap f)) : Row f w v xs := by
  obtain ⟨A, c, rfl, h1, h2, h3⟩ := own_slice h
  exact ⟨A, _, c, rfl, rfl, h1, h2, h3⟩
end


theorem field_at (ad : Addr) (n j : Nat) (hj : 0 < j) : (⟨(ad.add n).block, (ad.add n).off + j, none⟩ : Addr) = ad.add (n + j) := by
  obtain ⟨b, o, p⟩ := ad
  by_cases hn : n = 0
  · subst hn
    rw [Nat.zero_add]
    simp [Addr.add, Nat.ne_of_gt hj]
  · simp [Addr.add, hn, Nat.add_assoc]
theorem row_field {α : Type} {f : α → List Value} {k : Nat} {w : World} {xs : List α} {ad : Addr} (hf : ∀ x, (f x).length = k) (h : Rd w (some ad) (xs.flatMap f)) (i j : Nat) (hj : 0 < j) {x : α} {u : Value} (hx : xs[i]? = some x) (hu : (f x)[j]? = some u) : w.cell? ⟨(ad.add (i * k)).block, (ad.add (i * k)).off + j, none⟩ = some u := by
  rw [field_at ad (i * k) j hj]
  exact row_cell hf h i j hx hu
/-- append of structs onto what the call owns. -/
theorem app_row {P : Program} {α : Type} {f : α → List Value} {k : Nat} (hf : ∀ x, (f x).length = k) (h1 : ∀ x, ∀ u ∈ f x, u.oneCell' = true) {ops : Array Oper} {rest : List Oper} {o : Oper} {a : Act} {Q : Exit → Act → World → Prop} (w : World) (hgd : o.guard = none) (s x : Operand) (t e : TypeId)
    (ho : o.op = .call { callee := .builtin .append, args := #[s, x], argTypes := #[t, t] })
    (i : TypeInfo) (z : Value) (bytes : Nat) (ht : P.underlying t = some (.slice e)) (hi : P.info? e = some i) (hz : i.zero = some z) (hsize : i.size = k) (hby : i.bytes = bytes) (hzs : z.cells.size = k) (hsz : 0 < k) (hb4 : bytes ≤ 1024)
    (B : Nat) (v : Value) (out : List α) (hs : a.eval s = v) (hown : w.ownsRow B e k v out.length (out.flatMap f)) (hB : B ≤ w.heap.size)
    (A : Option Addr) (m c : Nat) (news : List α) (hx : a.eval x = .slice A m c) (hl : news.length = m) (hr : Rd w A (news.flatMap f))
    (hb : out.length + news.length ≤ 17179869184)
    (h : ∀ v' w', w'.ownsRow B e k v' (out ++ news).length ((out ++ news).flatMap f) → Chg B [e] w w' → wpList P ops Q rest (a.put o.dst v') w') : wpList P ops Q (o :: rest) a w := by
  subst hl
  refine wpList_append_rd w hgd s x t ho B e i z k bytes ht hi hz hsize hby hzs hsz v out.length _ hs hown A news.length c (news.flatMap f) hx (flat_length hf news) hr
    (by intro u hu; obtain ⟨y, _, hy⟩ := List.mem_flatMap.1 hu; exact h1 y u hy) (by simp only [maxLen]; omega) (by
      have h3 : (out.length + news.length) * bytes ≤ 17179869184 * 1024 := Nat.mul_le_mul hb hb4
      omega) hB ?_
  intro v' w' happ
  refine h v' w' ?_ (happ.chg hown (by simp) (Nat.le_refl _))
  have := happ.own
  rw [List.flatMap_append, List.length_append]
  exact this

end Go.Proofs.Ytdbboooblbdihaa
