/- What package graph's pick keeps while it ranges: two lists of texts of its own, and the range. -/
import Derived.Test.YtdahdghphjlmfaaGraU
import Derived.Test.YtdahdghphjlmfaaStp
namespace Go.Proofs.Ytdahdghphjlmfaa
open Go.RowKit Sets Gra
set_option linter.unusedVariables false

def entR (r : Rule) : ByteArray × Value := (r.dst, ruleV r)
/-- nm, sr: what has been collected; rest: the entries still to come. -/
structure Inv (w0 : World) (L : List Rule) (r b : Nat) (l : List (ByteArray × Value)) (v : World) (names srcs : Value) (nm sr : List ByteArray) (rest : List (ByteArray × Value)) : Prop where
  own1 : Own w0 v names nm
  own2 : Own w0 v srcs sr
  apart : ∀ k, names.ownBlock = some k → srcs.ownBlock ≠ some k
  range : RangeAt Value.string okS v r b l rest
  ext : Ext w0 v
theorem Inv.later {w0 : World} {L : List Rule} {r b : Nat} {l : List (ByteArray × Value)} {v v' : World} {names srcs : Value} {nm sr : List ByteArray} {rest : List (ByteArray × Value)} (h : Inv w0 L r b l v names srcs nm sr rest) (hx : Ext v v') : Inv w0 L r b l v' names srcs nm sr rest :=
  ⟨h.own1.ext hx, h.own2.ext hx, h.apart, h.range.ext hx, h.ext.trans hx⟩
theorem own_lt {w : World} {base e size n : Nat} {v : Value} {xs : List Value} (h : w.ownsRow base e size v n xs) : ∀ k, v.ownBlock = some k → k < w.heap.size ∧ base ≤ k ∧ ∃ c f, w.heap[k]? = some (.cells c e f) := by
  intro k hk
  rcases h.2 with ⟨rfl, _⟩ | ⟨g, cap, cur, rfl, hb, hh, _⟩
  · simp [Value.ownBlock] at hk
  · simp [Value.ownBlock] at hk
    subst hk
    exact ⟨(Array.getElem?_eq_some_iff.1 hh).1, hb, cur, _, hh⟩
/-- What an append onto one row leaves, of rows, maps and ranges elsewhere. -/
theorem app_kp {w w' : World} {base e size n m : Nat} {v v' : Value} {xs ys : List Value} (h : Appended w w' base e size v v' n xs) (ho : w.ownsRow base e size v m ys) : Kp (v.ownBlock.toList) w w' :=
  ⟨h.grown.os, h.grown.tape, h.grown.output, h.grown.size, fun k hk hn => h.grown.block k hk (fun e => hn (by rw [← e]; simp))⟩
theorem app_below' {w0 w w' : World} {e size n m : Nat} {v v' : Value} {xs ys : List Value} (h : Appended w w' w0.heap.size e size v v' n xs) (ho : w.ownsRow w0.heap.size e size v m ys) (hx : Ext w0 w) : Ext w0 w' :=
  (app_kp h ho).to_ext hx (fun k hk => (own_lt ho k (by simpa using hk)).2.1)
theorem RangeAt.app {enc : ByteArray → Value} {ok : ByteArray → Prop} {r b : Nat} {l rest : List (ByteArray × Value)} {w w' : World} {base e size n m : Nat} {v v' : Value} {xs ys : List Value} (hr : RangeAt enc ok w r b l rest) (h : Appended w w' base e size v v' n xs) (ho : w.ownsRow base e size v m ys) : RangeAt enc ok w' r b l rest := by
  refine hr.kp (app_kp h ho) ?_ ?_
  · intro hm
    obtain ⟨_, _, c, f, hc⟩ := own_lt ho b (by simpa using hm)
    exact hr.map.cells hc
  · intro hm
    obtain ⟨_, _, c, f, hc⟩ := own_lt ho r (by simpa using hm)
    obtain ⟨es, clock, seen, h1, h2, h3, h4, h5, h6, h7, h8⟩ := hr
    rw [hc] at h7
    cases h7
theorem own_other {w w' : World} {base e e' size size' n k : Nat} {v v' u : Value} {xs zs : List Value} (h : Appended w w' base e size v v' n xs) (hu : w.ownsRow base e' size' u k zs) (hap : ∀ j, v.ownBlock = some j → u.ownBlock ≠ some j) : w'.ownsRow base e' size' u k zs :=
  World.ownsRow.kept hu h.grown (by
    cases hv : u.ownBlock with
    | none => exact .inl rfl
    | some j =>
      right
      intro e
      exact hap j e.symm hv)
theorem Inv.app1 {w0 : World} {L : List Rule} {r b : Nat} {l : List (ByteArray × Value)} {v v' : World} {names names' srcs : Value} {nm sr : List ByteArray} {rest : List (ByteArray × Value)} {x : ByteArray} (h : Inv w0 L r b l v names srcs nm sr rest)
    (ha : Appended v v' w0.heap.size 9 1 names names' (nm.length + 1) (nm.map Value.string ++ [.string x])) : Inv w0 L r b l v' names' srcs (nm ++ [x]) sr rest := by
  refine ⟨?_, own_other ha h.own2 h.apart, ?_, h.range.app ha h.own1, app_below' ha h.own1 h.ext⟩
  · have := ha.own
    unfold Own
    rw [List.length_append, List.map_append]
    exact this
  · intro k hk hs
    rcases ha.lies with e | e
    · exact h.apart k (by rw [← e]; exact hk) hs
    · rw [hk] at e
      injection e with e
      have := (own_lt h.own2 k hs).1
      omega
theorem Inv.app2 {w0 : World} {L : List Rule} {r b : Nat} {l : List (ByteArray × Value)} {v v' : World} {names srcs srcs' : Value} {nm sr : List ByteArray} {rest : List (ByteArray × Value)} {x : ByteArray} (h : Inv w0 L r b l v names srcs nm sr rest)
    (ha : Appended v v' w0.heap.size 9 1 srcs srcs' (sr.length + 1) (sr.map Value.string ++ [.string x])) : Inv w0 L r b l v' names srcs' nm (sr ++ [x]) rest := by
  refine ⟨own_other ha h.own1 (fun j hj hn => h.apart j hn hj), ?_, ?_, h.range.app ha h.own2, app_below' ha h.own2 h.ext⟩
  · have := ha.own
    unfold Own
    rw [List.length_append, List.map_append]
    exact this
  · intro k hk hs
    rcases ha.lies with e | e
    · exact h.apart k hk (by rw [← e]; exact hs)
    · rw [hs] at e
      injection e with e
      have := (own_lt h.own1 k hk).1
      omega
theorem own_kp {w w' : World} {base e size n r : Nat} {u : Value} {zs : List Value} (hu : w.ownsRow base e size u n zs) (hk : Kp [r] w w') (hr : u.ownBlock ≠ some r) : w'.ownsRow base e size u n zs :=
  World.ownsRow.kept (row := some r) hu ⟨hk.os, hk.tape, hk.output, hk.size, fun k hkl hn => hk.block k hkl (by simp; rintro rfl; exact hn rfl)⟩ (by
    cases hv : u.ownBlock with
    | none => exact .inl rfl
    | some j =>
      right
      intro e
      exact hr (by rw [hv, e]))
theorem Inv.step {w0 : World} {L : List Rule} {r b : Nat} {l : List (ByteArray × Value)} {v v' : World} {names srcs : Value} {nm sr : List ByteArray} {rest rest' : List (ByteArray × Value)} (h : Inv w0 L r b l v names srcs nm sr rest) (hk : Kp [r] v v') (hr : RangeAt Value.string okS v' r b l rest') (hr0 : w0.heap.size ≤ r) : Inv w0 L r b l v' names srcs nm sr rest' := by
  have hit : ∀ c e f, v.heap[r]? ≠ some (.cells c e f) := by
    obtain ⟨es, clock, seen, h1, h2, h3, h4, h5, h6, h7, h8⟩ := h.range
    intro c e f hc
    rw [hc] at h7
    cases h7
  refine ⟨own_kp h.own1 hk ?_, own_kp h.own2 hk ?_, h.apart, hr, hk.to_ext h.ext (by simpa using hr0)⟩
  · intro e
    obtain ⟨_, _, c, f, hc⟩ := own_lt h.own1 r e
    exact hit _ _ _ hc
  · intro e
    obtain ⟨_, _, c, f, hc⟩ := own_lt h.own2 r e
    exact hit _ _ _ hc
end Go.Proofs.Ytdahdghphjlmfaa
