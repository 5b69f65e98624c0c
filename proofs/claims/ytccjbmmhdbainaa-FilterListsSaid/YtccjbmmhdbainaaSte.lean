/- append of a row of structs, as one step of a region that draws its order. -/
import Derived.Test.YtccjbmmhdbainaaStp
import Derived.Test.YtccjbmmhdbainaaRow
import Derived.Test.YtccjbmmhdbainaaKp
import Derived.Laws.OwnMore
namespace Go.Proofs.Ytccjbmmhdbainaa
open Go.RowKit
set_option linter.unusedVariables false

/-- append of structs, as one step of a region that draws. -/
theorem step_row {P : Program} {α : Type} {f : α → List Value} {k : Nat} (hf : ∀ x, (f x).length = k) (h1 : ∀ x, ∀ u ∈ f x, u.oneCell' = true) (w : World) {ops : Array Oper} {o : Oper} {a : Act} {K : Act → World → Prop} {Q : Exit → Act → World → Prop} {E : Prop} (hgd : o.guard = none) (s x : Operand) (t e : TypeId)
    (ho : o.op = .call { callee := .builtin .append, args := #[s, x], argTypes := #[t, t] })
    (i : TypeInfo) (z : Value) (bytes : Nat) (ht : P.underlying t = some (.slice e)) (hi : P.info? e = some i) (hz : i.zero = some z) (hsize : i.size = k) (hby : i.bytes = bytes) (hzs : z.cells.size = k) (hsz : 0 < k) (hb4 : bytes ≤ 1024)
    (B : Nat) (v : Value) (out : List α) (hs : a.eval s = v) (hown : w.ownsRow B e k v out.length (out.flatMap f)) (hB : B ≤ w.heap.size)
    (A : Option Addr) (m c : Nat) (news : List α) (hx : a.eval x = .slice A m c) (hl : news.length = m) (hr : Rd w A (news.flatMap f))
    (hb : out.length + news.length ≤ 17179869184)
    (h : ∀ v' w', w'.ownsRow B e k v' (out ++ news).length ((out ++ news).flatMap f) → Chg B [e] w w' → K (a.put o.dst v') w') :
    if Region.wanted o (yielded ops a.tmps) = true then Oper.wp P o a w K Q else E := by
  subst hl
  refine step_append_rd w hgd s x t ho B e i z k bytes ht hi hz hsize hby hzs hsz v out.length _ hs hown A news.length c (news.flatMap f) hx (flat_length hf news) hr
    (by intro u hu; obtain ⟨y, _, hy⟩ := List.mem_flatMap.1 hu; exact h1 y u hy) (by simp only [maxLen]; omega) (by
      have h3 : (out.length + news.length) * bytes ≤ 17179869184 * 1024 := Nat.mul_le_mul hb hb4
      omega) hB ?_
  intro v' w' happ
  refine h v' w' ?_ (happ.chg hown (by simp) (Nat.le_refl _))
  have := happ.own
  rw [List.flatMap_append, List.length_append]
  exact this
theorem ap_lt {w : World} {base e size n : Nat} {v : Value} {xs : List Value} (h : w.ownsRow base e size v n xs) : ∀ k, v.ownBlock = some k → k < w.heap.size ∧ base ≤ k ∧ ∃ c f, w.heap[k]? = some (.cells c e f) := by
  intro k hk
  rcases h.2 with ⟨rfl, _⟩ | ⟨g, cap, cur, rfl, hb, hh, _⟩
  · simp [Value.ownBlock] at hk
  · simp [Value.ownBlock] at hk
    subst hk
    exact ⟨(Array.getElem?_eq_some_iff.1 hh).1, hb, cur, _, hh⟩
/-- What an append leaves elsewhere. -/
theorem ap_kp {w w' : World} {base e size n m : Nat} {v v' : Value} {xs ys : List Value} (h : Appended w w' base e size v v' n xs) (ho : w.ownsRow base e size v m ys) : Kp (v.ownBlock.toList) w w' :=
  ⟨h.grown.os, h.grown.tape, h.grown.output, h.grown.size, fun k hk hn => h.grown.block k hk (fun e => hn (by rw [← e]; simp))⟩
theorem ap_ext {w0 w w' : World} {e size n m : Nat} {v v' : Value} {xs ys : List Value} (h : Appended w w' w0.heap.size e size v v' n xs) (ho : w.ownsRow w0.heap.size e size v m ys) (hx : Ext w0 w) : Ext w0 w' :=
  (ap_kp h ho).to_ext hx (fun k hk => (ap_lt ho k (by simpa using hk)).2.1)
theorem ap_rd {w w' : World} {base e size n m x : Nat} {v v' : Value} {xs ys cs : List Value} (h : Appended w w' base e size v v' n xs) (ho : w.ownsRow base e size v m ys) (hr : Rd w (some ⟨x, 0, none⟩) cs) (hx : ∀ k, v.ownBlock = some k → k ≠ x) : Rd w' (some ⟨x, 0, none⟩) cs :=
  (ap_kp h ho).rd hr (fun ad e hm => by
    injection e with e
    subst e
    exact hx x (by simpa using hm) rfl)
/-- An empty row, made anew. -/
theorem ap_lit {w : World} {B n e size : Nat} (hb : B ≤ w.heap.size) (hn : w.heap.size = n) : (w.alloc (.cells #[] e)).ownsRow B e size (.slice (some ⟨n, 0, none⟩) 0 0) 0 [] := by
  subst hn
  exact World.ownsRow_lit w #[] 0 hb (by simp [maxLen]) (by simp)
/-- A row in a block of its own. -/
theorem ap_new (w : World) (cs : Array Value) (t n : Nat) (hn : w.heap.size = n) : Rd (w.alloc (.cells cs t)) (some ⟨n, 0, none⟩) cs.toList := by
  subst hn
  exact Rd.new w cs t
end Go.Proofs.Ytccjbmmhdbainaa
