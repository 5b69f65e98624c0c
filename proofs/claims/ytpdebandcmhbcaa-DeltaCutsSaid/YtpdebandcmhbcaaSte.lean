/- append of a row of structs, as one step of a region that draws its order. -/
import Derived.Test.YtpdebandcmhbcaaStp
import Derived.Test.YtpdebandcmhbcaaRow
namespace Go.Proofs.Ytpdebandcmhbcaa
open Go.RowKit
set_option linter.unusedVariables false

/-- append of structs, as one step of a region that draws. -/
theorem step_row {P : Program} {α : Type} {f : α → List Value} {k : Nat} (hf : ∀ x, (f x).length = k) (h1 : ∀ x, ∀ u ∈ f x, u.oneCell' = true) (w : World) {ops : Array Oper} {o : Oper} {a : Act} {K : Act → World → Prop} {Q : Exit → Act → World → Prop} {E : Prop} (hgd : o.guard = none) (s x : Operand) (t e : TypeId)
    (ho : o.op = .call { callee := .builtin .append, args := #[s, x], argTypes := #[t, t] })
    (i : TypeInfo) (z : Value) (bytes : Nat) (ht : P.underlying t = some (.slice e)) (hi : P.info? e = some i) (hz : i.zero = some z) (hsize : i.size = k) (hby : i.bytes = bytes) (hzs : z.cells.size = k) (hsz : 0 < k) (hb4 : bytes ≤ 1024)
    (B : Nat) (v : Value) (out : List α) (hs : a.eval s = v) (hown : w.ownsRow B e k v out.length (out.flatMap f)) (hB : B ≤ w.heap.size)
    (A : Option Addr) (m c : Nat) (news : List α) (hx : a.eval x = .slice A m c) (hl : news.length = m) (hr : Rd w A (news.flatMap f))
    (hb : out.length + news.length ≤ 17179869184)
    (h : ∀ v' w', w'.ownsRow B e k v' (out ++ news).length ((out ++ news).flatMap f) → Chg B [e] w w' → K (a.put o.dst v') w') :
    if Region.wanted o (yielded ops a.tmps) = true then Oper.wp P o a w K Q else E := by
  subst hl
  refine step_append_rd w hgd s x t ho B e i z k bytes ht hi hz hsize hby hzs hsz v out.length _ hs hown A news.length c (news.flatMap f) hx (flat_length hf news) hr
    (by intro u hu; obtain ⟨y, _, hy⟩ := List.mem_flatMap.1 hu; exact h1 y u hy) (by simp only [maxLen]; omega) (by
      have h3 : (out.length + news.length) * bytes ≤ 17179869184 * 1024 := Nat.mul_le_mul hb hb4
      omega) hB ?_
  intro v' w' happ
  refine h v' w' ?_ (happ.chg hown (by simp) (Nat.le_refl _))
  have := happ.own
  rw [List.flatMap_append, List.length_append]
  exact this
end Go.Proofs.Ytpdebandcmhbcaa
