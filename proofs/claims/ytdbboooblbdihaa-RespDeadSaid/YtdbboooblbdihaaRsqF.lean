/- RespDead: the plain law. -/
import Derived.Test.YtdbboooblbdihaaRsqE
namespace Go.Proofs.Ytdbboooblbdihaa
open Go.RowKit
set_option linter.unusedVariables false
set_option linter.unusedSectionVars false
set_option linter.unusedSimpArgs false
set_option maxRecDepth 100000

/-- How many bytes the whole commands have. -/
def lenC : List Cmd → Nat
  | [] => 0
  | c :: t => (if c.e = 0 then (frameL c.ws).length else 0) + lenC t
/-- How many commands are errors. -/
def badC : List Cmd → Nat
  | [] => 0
  | c :: t => (if c.e = 0 then 0 else 1) + badC t
theorem lenC_app : ∀ (a b : List Cmd), lenC (a ++ b) = lenC a + lenC b
  | [], b => by simp [lenC]
  | x :: t, b => by rw [List.cons_append]; show _ + lenC (t ++ b) = _ + lenC t + lenC b; rw [lenC_app t b]; omega
theorem badC_app : ∀ (a b : List Cmd), badC (a ++ b) = badC a + badC b
  | [], b => by simp [badC]
  | x :: t, b => by rw [List.cons_append]; show _ + badC (t ++ b) = _ + badC t + badC b; rw [badC_app t b]; omega
theorem dead_law : ∀ (n : Nat) (l : List UInt8), l.length ≤ n → lenC (rdAll l).1 + (rdAll l).2.1.length ≤ l.length ∧ ((rdAll l).2.2 = true ↔ badC (rdAll l).1 = 1) ∧ badC (rdAll l).1 ≤ 1 ∧ ((rdAll l).2.2 = true → (rdAll l).2.1 = []) ∧
    (∀ i c, (rdAll l).1[i]? = some c → (c.e = 0 ∧ goodW c.ws) ∨ (¬ c.e = 0 ∧ c.ws = [] ∧ i + 1 = (rdAll l).1.length)) := by
  intro n
  induction n with
  | zero =>
    intro l hl
    obtain rfl : l = [] := List.eq_nil_of_length_eq_zero (by omega)
    rw [rd_nil]
    simp [lenC, badC]
  | succ n ih =>
    intro l hl
    cases hc : cmdP l with
    | er c =>
      rw [rdAll_er hc]
      by_cases h3 : c = 3
      · rw [if_pos h3]
        simp [lenC, badC]
      · rw [if_neg h3]
        have h0 := cmd_er hc
        refine ⟨by simp [lenC, h0], by simp [badC, h0], by simp [badC, h0], by simp, ?_⟩
        intro i d h
        match i with
        | 0 =>
          simp at h
          subst h
          exact .inr ⟨h0, rfl, rfl⟩
        | j + 1 => simp at h
    | ok ws l' =>
      have h1 := cmd_len hc
      obtain ⟨hg, hf⟩ := cmd_inv hc
      have hfl := congrArg List.length hf
      rw [List.length_append] at hfl
      obtain ⟨e1, e2, e3, e4, e5⟩ := ih l' (by omega)
      rw [rdAll_ok hc]
      dsimp only
      by_cases hw : ws.length = 0
      · rw [if_pos hw]
        exact ⟨by omega, e2, e3, e4, e5⟩
      · rw [if_neg hw]
        refine ⟨?_, ?_, ?_, e4, ?_⟩
        · show (if (0 : Int) = 0 then (frameL ws).length else 0) + lenC _ + _ ≤ _
          rw [if_pos rfl]
          omega
        · show _ ↔ (if (0 : Int) = 0 then 0 else 1) + badC _ = 1
          rw [if_pos rfl, Nat.zero_add]
          exact e2
        · show (if (0 : Int) = 0 then 0 else 1) + badC _ ≤ 1
          rw [if_pos rfl, Nat.zero_add]
          exact e3
        · intro i d h
          match i with
          | 0 =>
            simp at h
            subst h
            exact .inl ⟨rfl, hg⟩
          | j + 1 =>
            rw [List.getElem?_cons_succ] at h
            rcases e5 j d h with h | ⟨h6, h7, h8⟩
            · exact .inl h
            · exact .inr ⟨h6, h7, by rw [List.length_cons]; omega⟩
theorem lenC_snoc {l : List Cmd} {k : Nat} {x : Cmd} (h : l[k]? = some x) : lenC (l.take (k + 1)) = lenC (l.take k) + if x.e = 0 then (frameL x.ws).length else 0 := by
  rw [List.take_add_one, h, lenC_app]
  simp [lenC]
theorem badC_snoc {l : List Cmd} {k : Nat} {x : Cmd} (h : l[k]? = some x) : badC (l.take (k + 1)) = badC (l.take k) + if x.e = 0 then 0 else 1 := by
  rw [List.take_add_one, h, badC_app]
  simp [badC]
theorem lenC_take (l : List Cmd) (k : Nat) : lenC (l.take k) ≤ lenC l := by
  have h := lenC_app (l.take k) (l.drop k)
  rw [List.take_append_drop] at h
  omega
theorem badC_take (l : List Cmd) (k : Nat) : badC (l.take k) ≤ badC l := by
  have h := badC_app (l.take k) (l.drop k)
  rw [List.take_append_drop] at h
  omega
end Go.Proofs.Ytdbboooblbdihaa
