/- The walks of package file: copies, new files. -/
import Derived.Test.YtdndeggognfcaaaFilO
import Derived.Deep.RegionLaw
namespace Go.Proofs.Ytdndeggognfcaaa
open Go.RowKit Go.Lib Fil
set_option linter.unusedVariables false
set_option maxRecDepth 100000

/-- append, as one step of a region that draws. -/
theorem step_append_rd {P : Program} (w : World) {ops : Array Oper} {o : Oper} {a : Act} {K : Act → World → Prop} {Q : Exit → Act → World → Prop} {E : Prop} (hgd : o.guard = none) (s x : Operand) (t : TypeId)
    (ho : o.op = .call { callee := .builtin .append, args := #[s, x], argTypes := #[t, t] })
    (base : Nat) (e : TypeId) (i : TypeInfo) (z : Value) (size bytes : Nat) (ht : P.underlying t = some (.slice e)) (hi : P.info? e = some i) (hz : i.zero = some z)
    (hsize : i.size = size) (hby : i.bytes = bytes) (hzs : z.cells.size = size) (hsz : 0 < size)
    (v : Value) (n : Nat) (xs : List Value) (hs : a.eval s = v) (hown : w.ownsRow base e size v n xs)
    (A : Option Addr) (m c : Nat) (news : List Value) (hx : a.eval x = .slice A m c) (hl : news.length = m * size) (hr : Rd w A news) (h1 : ∀ u ∈ news, u.oneCell' = true)
    (h63 : n + m ≤ maxLen) (hbytes : (n + m) * bytes ≤ 140737488355328) (hbase : base ≤ w.heap.size)
    (h : ∀ v' w', Appended w w' base e size v v' (n + m) (xs ++ news) → K (a.put o.dst v') w') :
    if Region.wanted o (yielded ops a.tmps) = true then Oper.wp P o a w K Q else E := by
  have hw : Region.wanted o (yielded ops a.tmps) = true := by simp [Region.wanted, hgd]
  rw [if_pos hw]
  exact wp_append_rd w s x t ho base e i z size bytes ht hi hz hsize hby hzs hsz v n xs hs hown A m c news hx hl hr h1 h63 hbytes hbase h

theorem step_copied (w0 w : World) (hd : Ext w0 w) {ops : Array Oper} {o : Oper} {a : Act} {K : Act → World → Prop} {Q : Exit → Act → World → Prop} {E : Prop} (x : Operand) (hgd : o.guard = none)
    (ho : o.op = .call { callee := .builtin .append, args := #[.const (.slice none 0 0), x], argTypes := #[50, 50] })
    (A : Option Addr) (m c : Nat) (l : List UInt8) (hx : a.eval x = .slice A m c) (hm : Hid (l.length = m)) (hl : l.length ≤ 16777216) (hr : Rd w A (l.map byteV))
    (h : ∀ A1 n1 c1 w', BT w' (.slice A1 n1 c1) l → Ext w0 w' → K (a.put o.dst (.slice A1 n1 c1)) w') :
    if Region.wanted o (yielded ops a.tmps) = true then Oper.wp Try.prog o a w K Q else E := by
  obtain ⟨i0, hi0, hz0, hz1, hz2⟩ := info_parts Try.u8Info
  have hml : maxLen = 9223372036854775807 := rfl
  have hme := hm.out
  refine step_append_rd w hgd (.const (.slice none 0 0)) x 50 ho w.heap.size 5 i0 (.int .u8 0) 1 1 Try.underlying50 hi0 hz0 hz1 hz2 rfl (by decide) (.slice none 0 0) 0 [] rfl (World.ownsRow_nil _ _ _ _) A m c (l.map byteV) hx (by rw [List.length_map, hme, Nat.mul_one]) hr
    (by intro u hu; obtain ⟨y, _, rfl⟩ := List.mem_map.1 hu; rfl) (by omega) (by omega) (Nat.le_refl _) ?_
  intro v1 w1 happ
  have hx1 : Ext w w1 := Ext.of_grown happ.grown (by simp [Value.ownBlock])
  have hbt1 : BT w1 v1 l := by
    have := happ.own
    rw [List.nil_append, Nat.zero_add, ← hme] at this
    exact own_bt this
  obtain ⟨A1, n1, cc1, rfl, _⟩ := hbt1.byt
  exact h _ _ _ _ hbt1 (hd.trans hx1)

theorem new_any (w : World) : Calls Try.prog 15 #[] w fun e w' => e = .returned (.pointer (some ⟨w.heap.size, 0, none⟩)) ∧ Ext w w' ∧ FileAt w' w.heap.size [w.heap.size] St.empty := by
  go_enter Try.func15, Try.ntmps15
  go_wp2_with fail
  go_ret
  refine ⟨rfl, Ext.alloc w _, .slice none 0 0, .pointer none, .pointer none, [], [], heap_alloc_new w _, ?_, ⟨rfl, rfl⟩, ⟨rfl, rfl⟩, rfl, by simp⟩
  have h : St.empty.s.toList = [] := by rw [St.empty, toList_mk]
  rw [h]
  exact BT.nil _

end Go.Proofs.Ytdndeggognfcaaa
