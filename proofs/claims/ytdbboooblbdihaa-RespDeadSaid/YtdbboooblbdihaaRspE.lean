/- Package resp's Feed: the plain law of all that is read; the rows of commands. -/
import Derived.Test.YtdbboooblbdihaaRspD
namespace Go.Proofs.Ytdbboooblbdihaa
open Go.RowKit
set_option linter.unusedVariables false
set_option linter.unusedSectionVars false
set_option linter.unusedSimpArgs false
set_option maxRecDepth 100000

theorem exp_len {x : UInt8} {l l' : List UInt8} {a : Unit} (h : expP x l = .ok a l') : l.length = l'.length + 1 := by
  cases l with
  | nil => simp [expP] at h
  | cons c t =>
    have h : (if c = x then Pr.ok () t else .er 4) = .ok a l' := h
    by_cases hc : c = x
    · rw [if_pos hc] at h
      injection h with _ h
      rw [← h]
      rfl
    · rw [if_neg hc] at h
      cases h
theorem end_len {l l' : List UInt8} {a : Unit} (h : endP l = .ok a l') : l.length = l'.length + 2 := by
  unfold endP at h
  cases hc : expP 13 l with
  | er c => rw [hc] at h; cases h
  | ok b l1 =>
    rw [hc] at h
    have h1 := exp_len hc
    have h2 := exp_len h
    omega
theorem num_len (most : Nat) (minus : Bool) : ∀ (l : List UInt8) (k : Nat) (z : Bool) (n : Int) (m : Int) (l' : List UInt8), numG most minus k z n l = .ok m l' → l'.length ≤ l.length := by
  intro l
  induction l with
  | nil => intro k z n m l' h; simp [numG] at h
  | cons c t ih =>
    intro k z n m l' h
    unfold numG at h
    by_cases hd : dig c
    · rw [if_pos hd] at h
      by_cases hc : k < most ∧ (k = 0 ∨ z = false)
      · rw [if_pos hc] at h
        by_cases hq : wrap64 ((nextN minus n c).tdiv 10) = n
        · rw [if_pos hq] at h
          have := ih _ _ _ _ _ h
          simp
          omega
        · rw [if_neg hq] at h; cases h
      · rw [if_neg hc] at h; cases h
    · rw [if_neg hd] at h
      by_cases hk : 0 < k
      · rw [if_pos hk] at h
        injection h with _ h
        rw [← h]
        exact Nat.le_refl _
      · rw [if_neg hk] at h; cases h
theorem line_len {x : UInt8} {most : Int} {l l' : List UInt8} {n : Int} (h : lineP x most l = .ok n l') : l'.length < l.length := by
  unfold lineP at h
  obtain ⟨a, l1, h1, h⟩ := bind_ok h
  obtain ⟨m, l2, h2, h⟩ := bind_ok h
  obtain ⟨b, l3, h3, h⟩ := bind_ok h
  have e1 := exp_len h1
  have e2 := num_len _ _ _ _ _ _ _ _ h2
  have e3 := end_len h3
  by_cases hm : m ≤ most
  · rw [if_pos hm] at h
    injection h with _ h
    rw [← h]
    omega
  · rw [if_neg hm] at h; cases h
theorem bytes_len {n : Nat} {l l' : List UInt8} {x : ByteArray} (h : bytesP n l = .ok x l') : l.length = n + l'.length + 2 ∧ x = bsv (l.take n) := by
  unfold bytesP at h
  by_cases hn : l.length < n
  · rw [if_pos hn] at h; cases h
  · rw [if_neg hn] at h
    obtain ⟨a, l1, h1, h⟩ := bind_ok h
    have := end_len h1
    rw [List.length_drop] at this
    injection h with h2 h
    rw [← h]
    exact ⟨by omega, h2.symm⟩
theorem word_len {l l' : List UInt8} {x : ByteArray} (h : wordP l = .ok x l') : l'.length < l.length := by
  unfold wordP at h
  obtain ⟨n, l1, h1, h⟩ := bind_ok h
  have e1 := line_len h1
  have e2 := (bytes_len h).1
  omega
theorem words_len : ∀ (k : Nat) (out : List ByteArray) (l : List UInt8) (ws : List ByteArray) (l' : List UInt8), wordsA k out l = .ok ws l' → l'.length ≤ l.length ∧ ∃ xs, ws = out ++ xs ∧ xs.length = k := by
  intro k
  induction k with
  | zero => intro out l ws l' h; injection h with h1 h2; rw [← h1, ← h2]; exact ⟨Nat.le_refl _, [], by simp, rfl⟩
  | succ k ih =>
    intro out l ws l' h
    unfold wordsA at h
    obtain ⟨x, l1, h1, h⟩ := bind_ok h
    obtain ⟨e2, xs, e3, e4⟩ := ih _ _ _ _ h
    have e1 := word_len h1
    exact ⟨by omega, x :: xs, by rw [e3]; simp, by simp [e4]⟩
theorem cmd_len {l l' : List UInt8} {ws : List ByteArray} (h : cmdP l = .ok ws l') : l'.length < l.length := by
  unfold cmdP at h
  obtain ⟨n, l1, h1, h⟩ := bind_ok h
  have e1 := line_len h1
  have e2 := (words_len _ _ _ _ _ h).1
  omega
/-- A command that was read. -/
structure Cmd where
  ws : List ByteArray
  e : Int
/-- All commands of bytes, what is left, and whether that is the end. -/
def rdAll (l : List UInt8) : List Cmd × List UInt8 × Bool :=
  match h : cmdP l with
  | .er c => if c = 3 then ([], l, false) else ([⟨[], c⟩], [], true)
  | .ok ws l' => (if ws.length = 0 then (rdAll l').1 else ⟨ws, 0⟩ :: (rdAll l').1, (rdAll l').2)
termination_by l.length
decreasing_by all_goals exact cmd_len h
theorem rdAll_er {l : List UInt8} {c : Int} (h : cmdP l = .er c) : rdAll l = if c = 3 then ([], l, false) else ([⟨[], c⟩], [], true) := by
  rw [rdAll]
  split
  · rename_i c' h'; rw [h] at h'; injection h' with h'; subst h'; rfl
  · rename_i h'; rw [h] at h'; cases h'
theorem rdAll_ok {l l' : List UInt8} {ws : List ByteArray} (h : cmdP l = .ok ws l') : rdAll l = (if ws.length = 0 then (rdAll l').1 else ⟨ws, 0⟩ :: (rdAll l').1, (rdAll l').2) := by
  rw [rdAll]
  split
  · rename_i h'; rw [h] at h'; cases h'
  · rename_i ws' l2 h'; rw [h] at h'; injection h' with h1 h2; subst h1 h2; rfl
/-- A command in memory. -/
structure CmdE where
  v : Value
  e : Int
instance : Inhabited CmdE := ⟨⟨.slice none 0 0, 0⟩⟩
def cmdC (x : CmdE) : List Value := [x.v, .int .i64 x.e]
theorem cmdC_len (x : CmdE) : (cmdC x).length = 2 := rfl
def CmdsIn (w0 w : World) (xs : List CmdE) (cs : List Cmd) : Prop := xs.length = cs.length ∧ ∀ (i : Nat) (x : CmdE) (c : Cmd), xs[i]? = some x → cs[i]? = some c → Own w0 w x.v c.ws ∧ x.e = c.e
/-- A row of commands of the call's own. -/
def CmdsAt (w0 w : World) (u : Value) (cs : List Cmd) : Prop := ∃ xs : List CmdE, w.ownsRow w0.heap.size 43 2 u xs.length (xs.flatMap cmdC) ∧ CmdsIn w0 w xs cs
/-- None of the blocks holds texts. -/
def NoS (w : World) (K : List Nat) : Prop := ∀ k ∈ K, ∀ c f, w.heap[k]? ≠ some (.cells c 9 f)
theorem own_at {w : World} {base e size n : Nat} {v : Value} {xs : List Value} (h : w.ownsRow base e size v n xs) : ∀ k, v.ownBlock = some k → ∃ c f, w.heap[k]? = some (.cells c e f) := by
  intro k hk
  rcases h.2 with ⟨rfl, _⟩ | ⟨g, cap, cur, rfl, hb, hh, _⟩
  · simp [Value.ownBlock] at hk
  · simp [Value.ownBlock] at hk
    subst hk
    exact ⟨cur, _, hh⟩
theorem row_kp {w w' : World} {base e size n : Nat} {v : Value} {xs : List Value} {K : List Nat} (h : w.ownsRow base e size v n xs) (hk : Kp K w w') (hn : ∀ k, v.ownBlock = some k → k ∉ K) : w'.ownsRow base e size v n xs := by
  refine ⟨h.1, ?_⟩
  rcases h.2 with h0 | ⟨g, cap, cur, rfl, hb, hh, r⟩
  · exact .inl h0
  · exact .inr ⟨g, cap, cur, rfl, hb, hk.heap hh (hn g rfl), r⟩
theorem CmdsIn.kp {w0 w w' : World} {xs : List CmdE} {cs : List Cmd} {K : List Nat} (h : CmdsIn w0 w xs cs) (hk : Kp K w w') (hn : NoS w K) : CmdsIn w0 w' xs cs :=
  ⟨h.1, fun i x c h1 h2 => by
    obtain ⟨ho, he⟩ := h.2 i x c h1 h2
    exact ⟨own_kp ho hk (fun k hb hm => by
      obtain ⟨c', f', h3⟩ := own_at ho k hb
      exact hn k hm c' f' h3), he⟩⟩
theorem CmdsIn.ext {w0 w w' : World} {xs : List CmdE} {cs : List Cmd} (h : CmdsIn w0 w xs cs) (hx : Ext w w') : CmdsIn w0 w' xs cs := h.kp (K := []) (Kp.of_ext hx) (by intro k hk; simp at hk)
theorem CmdsIn.snoc {w0 w : World} {xs : List CmdE} {cs : List Cmd} {x : CmdE} {c : Cmd} (h : CmdsIn w0 w xs cs) (hx : Own w0 w x.v c.ws) (he : x.e = c.e) : CmdsIn w0 w (xs ++ [x]) (cs ++ [c]) := by
  refine ⟨by simp [h.1], fun i y d h1 h2 => ?_⟩
  by_cases hi : i < xs.length
  · rw [List.getElem?_append_left hi] at h1
    rw [List.getElem?_append_left (by rw [← h.1]; exact hi)] at h2
    exact h.2 i y d h1 h2
  · rw [List.getElem?_append_right (by omega)] at h1
    rw [List.getElem?_append_right (by rw [← h.1]; omega), ← h.1] at h2
    have hz : i - xs.length = 0 := by
      have := (List.getElem?_eq_some_iff.1 h1).1
      simp at this
      omega
    rw [hz] at h1 h2
    simp at h1 h2
    subst h1 h2
    exact ⟨hx, he⟩
theorem CmdsAt.kp {w0 w w' : World} {u : Value} {cs : List Cmd} {K : List Nat} (h : CmdsAt w0 w u cs) (hk : Kp K w w') (hn : NoS w K) (hu : ∀ k, u.ownBlock = some k → k ∉ K) : CmdsAt w0 w' u cs := by
  obtain ⟨xs, h1, h2⟩ := h
  exact ⟨xs, row_kp h1 hk hu, h2.kp hk hn⟩
theorem CmdsAt.ext {w0 w w' : World} {u : Value} {cs : List Cmd} (h : CmdsAt w0 w u cs) (hx : Ext w w') : CmdsAt w0 w' u cs := h.kp (K := []) (Kp.of_ext hx) (by intro k hk; simp at hk) (by simp)
theorem CmdsAt.nil (w0 w : World) : CmdsAt w0 w (.slice none 0 0) [] := ⟨[], World.ownsRow_nil _ _ _ _, rfl, by intro i x c h; simp at h⟩
end Go.Proofs.Ytdbboooblbdihaa
