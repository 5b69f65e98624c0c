/- The walk of delta's Get. -/
import Derived.Test.YtpdebandcmhbcaaDelG
namespace Go.Proofs.Ytpdebandcmhbcaa
open Go.RowKit Bit
set_option linter.unusedVariables false

theorem get_err {l : List Bool} {u m : Nat} {x : Int} (h : getB l = (u, m, x)) : (x = 0 ∧ m ≤ l.length ∧ 1 ≤ m) ∨ ((x = 3 ∨ x = 4) ∧ m = 0 ∧ u = 0) := by
  by_cases hx : x = 0
  · subst hx
    obtain ⟨_, h2, h3, _⟩ := code_get h
    exact .inl ⟨rfl, h3, by rw [h2]; exact size_pos u⟩
  · refine .inr ?_
    unfold getB at h
    simp only at h
    split at h
    · injection h with h1 h2; injection h2 with h2 h3; exact ⟨.inl h3.symm, h2.symm, h1.symm⟩
    split at h
    · injection h with h1 h2; injection h2 with h2 h3; exact ⟨.inl h3.symm, h2.symm, h1.symm⟩
    split at h
    · injection h with h1 h2; injection h2 with h2 h3; exact ⟨.inr h3.symm, h2.symm, h1.symm⟩
    · injection h with h1 h2; injection h2 with h2 h3; exact absurd h3.symm hx
theorem getB_lt {l : List Bool} {u m : Nat} {x : Int} (h : getB l = (u, m, x)) : u < 18446744073709551616 := by
  rcases get_err h with ⟨rfl, _⟩ | ⟨_, _, rfl⟩
  · exact (code_get h).1
  · decide
def GetPost (B g : Nat) (s : ByteArray) (n k : Nat) (w : World) (e : Ending) (w' : World) : Prop :=
  ∃ (u m : Nat) (x : Int), e = .returned (.tuple #[.int .u64 (u : Int), .int .i64 x]) ∧ getB (bitsAt s k (n - k)) = (u, m, x) ∧ Rdr w' g s n (k + m) ∧ Chg B [77] w w'
theorem dget_any (B g : Nat) (s : ByteArray) (n k : Nat) (w : World) (h : Rdr w g s n k) (hk : k ≤ n) (hn : n ≤ 34359738368) (hn8 : n ≤ 8 * s.size) (hs : s.size ≤ 4294967296) (hB : B ≤ g) :
    Calls Try.prog 26 #[.pointer (some ⟨g, 0, none⟩)] w (GetPost B g s n k w) := by
  unfold GetPost
  have H := Lib.hid h
  clear h
  go_enter Try.func26, Try.ntmps26
  go_wp2_with fail
  refine (left_any g s n k w H.out hk hn).mono ?_
  rintro e w1 ⟨rfl, q1, rfl⟩
  go_wp2_with fail
  refine (code_at B g s n k _ (w.drewN q1) (H.out.ext (Ext.drewN _ _)) hk hn hn8 hs hB rfl).mono ?_
  rintro e w2 ⟨u, m, x, rfl, hg, k', hr, h1, h2, h3, hc⟩
  have HR := Lib.hid hr
  have HC := Lib.hid (((Chg.refl B [77] w).drewN q1).trans hc)
  have HG := Lib.hid hg
  have H3 := Lib.hid h3
  clear hr hc hg h3
  rcases get_err HG.out with ⟨rfl, hm, _⟩ | ⟨hx | hx, rfl, rfl⟩
  · have he := H3.out rfl
    subst he
    clear hm
    go_wp2_with fail
    go_ret2
    exact ⟨u, m, 0, rfl, HG.out, HR.out, HC.out⟩
  · subst hx
    clear H3
    go_wp2_with fail
    refine (dback_any B g s n k' k w2 HR.out hk hn hB).mono ?_
    rintro e w3 ⟨rfl, hr3, hc3⟩
    have HR3 := Lib.hid hr3
    have HC3 := Lib.hid (HC.out.trans hc3)
    clear hr3 hc3
    go_wp2_with fail
    go_ret2
    exact ⟨0, 0, 3, rfl, HG.out, HR3.out, HC3.out⟩
  · subst hx
    clear H3
    go_wp2_with fail
    refine (dback_any B g s n k' k w2 HR.out hk hn hB).mono ?_
    rintro e w3 ⟨rfl, hr3, hc3⟩
    have HR3 := Lib.hid hr3
    have HC3 := Lib.hid (HC.out.trans hc3)
    clear hr3 hc3
    go_wp2_with fail
    go_ret2
    exact ⟨0, 0, 4, rfl, HG.out, HR3.out, HC3.out⟩
theorem code_nil (w : World) : Calls Try.prog 40 #[.pointer none] w fun e w' => e = .returned (.tuple #[.int .u64 0, .int .i64 11]) ∧ w = w' := by
  go_enter Try.func40, Try.ntmps40
  go_wp2_with fail
  go_loopw [4] (fun i wr => i = .int .i64 0 ∧ wr = w) (fun _ _ => 0)
  case atStart => exact ⟨rfl, rfl⟩
  case round =>
    obtain ⟨rfl, rfl⟩ := hrel
    go_wp2_with fail
    refine (get_nil 1 wr).mono ?_
    rintro e _ ⟨rfl, rfl⟩
    go_wp2_with fail
    go_ret2
    exact ⟨rfl, rfl⟩
theorem dget_nil (w : World) : Calls Try.prog 26 #[.pointer none] w fun e w' => e = .returned (.tuple #[.int .u64 0, .int .i64 11]) ∧ w = w' := by
  go_enter Try.func26, Try.ntmps26
  go_wp2_with fail
  refine (left_nil w).mono ?_
  rintro e _ ⟨rfl, rfl⟩
  go_wp2_with fail
  refine (code_nil w).mono ?_
  rintro e _ ⟨rfl, rfl⟩
  go_wp2_with fail
  go_ret2
  exact ⟨rfl, rfl⟩
end Go.Proofs.Ytpdebandcmhbcaa
