/- The walks of the reference's Number. -/
import Derived.Test.YtpdebandcmhbcaaBitR
import Derived.Test.YtpdebandcmhbcaaBitG
import Derived.Test.YtpdebandcmhbcaaBitI
namespace Go.Proofs.Ytpdebandcmhbcaa
open Go.RowKit Bit
set_option linter.unusedVariables false

theorem bool_at {w : World} {ad : Addr} {l : List Bool} (h : Rd w (some ad) (l.map .bool)) (k : Nat) (hk : k < l.length) : w.cell? (ad.add k) = some (.bool l[k]) := by
  have hg : (l.map Value.bool)[k]? = some (.bool l[k]) := by rw [List.getElem?_map, List.getElem?_eq_getElem hk]; rfl
  obtain ⟨ad', he, hc⟩ := h (by intro hn; simp [hn] at hg)
  injection he with he
  subst he
  exact hc k _ hg
theorem num_step (l : List Bool) (k : Nat) (hk : k < l.length) : num (l.take (k + 1)) = 2 * num (l.take k) + l[k].toNat := by
  rw [List.take_succ_eq_append_getElem hk, num_snoc]

theorem rNumber_any (v : Value) (l : List Bool) (w : World) (h : Boo w v l) (hl : l.length ≤ 64) :
    Calls Try.prog 37 #[v] w fun e w' => e = .returned (.int .u64 ((num l : Nat) : Int)) ∧ w = w' := by
  obtain ⟨A, n, c, rfl, hn, hnc, hcm, hr⟩ := h
  have hn64 : n ≤ 64 := by omega
  have HN := Lib.hid hn
  have HR := Lib.hid hr
  clear hn hr hl
  go_enter Try.func37, Try.ntmps37
  go_wp2
  go_loop [3, 4] (fun u i => ∃ k : Nat, k ≤ n ∧ i = .int .i64 k ∧ u = .int .u64 ((num (l.take k) : Nat) : Int)) (fun _ i => n - (intOf i).toNat)
  case atStart => exact ⟨0, by omega, rfl, rfl⟩
  case round =>
    obtain ⟨k, hk, rfl, rfl⟩ := hrel
    by_cases h1 : k < n
    · obtain ⟨ad, rfl, _⟩ := HR.out.some_ (by rw [List.length_map, HN.out]; omega)
      have c0 := bool_at HR.out k (by have := HN.out; omega)
      have hst := num_step l k (by have := HN.out; omega)
      have hlt := num_lt (l.take k)
      have hlen : (l.take k).length ≤ 63 := by rw [List.length_take]; omega
      have hx63 : num (l.take k) < 9223372036854775808 := by
        have : 2 ^ (l.take k).length ≤ 2 ^ 63 := Nat.pow_le_pow_right (by omega) hlen
        have h3 : (2 : Nat) ^ 63 = 9223372036854775808 := rfl
        omega
      clear hlt hlen
      have HST := Lib.hid hst
      clear hst
      generalize hb : l[k]'(by have := HN.out; omega) = b at *
      generalize num (l.take k) = x at *
      have HB := Lib.hid hb
      clear hb
      cases b
      all_goals
        go_wp2
        go_round
        case rel => exact ⟨k + 1, by omega, by go_num, by rw [HST.out]; simp⟩
        case measure => simp [intOf]; omega
    · obtain rfl : k = n := by omega
      rw [List.take_of_length_le (Nat.le_of_eq HN.out)]
      go_wp2
      go_ret
      exact ⟨rfl, rfl⟩

end Go.Proofs.Ytpdebandcmhbcaa
