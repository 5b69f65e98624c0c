/- Layer 11's light, One, Plain, and the document's Same. -/
import Derived.Test.YtdahdghphjlmfaaGraD
import Derived.Deep.LoopGhost
namespace Go.Proofs.Ytdahdghphjlmfaa
open Go.RowKit Sets Gra
set_option linter.unusedVariables false

theorem own_later {w w' : World} {base e size n : Nat} {u : Value} {zs : List Value} (h : w.ownsRow base e size u n zs) (hb : Ext w w') : w'.ownsRow base e size u n zs :=
  World.ownsRow.kept (row := none) h ⟨hb.os, hb.tape, hb.output, hb.size, fun k hk _ => hb.block k hk⟩ (by
    cases hv : u.ownBlock with
    | none => exact .inl rfl
    | some k => exact .inr (by simp))
def lightR (r : Rule) : Bool := decide (r.src.size ≤ 100) && decide (r.dst.size ≤ 100)
theorem light_any (r : Rule) (w : World) (hr : RuleOk r) : Calls Try.prog 11 #[ruleV r] w fun e w' => e = .returned (.bool (lightR r)) ∧ Ext w w' := by
  obtain ⟨rs, rd, rk, rz, ra⟩ := r
  have h1 := hr.s
  have h2 := hr.d
  dsimp only at h1 h2
  simp only [ruleV]
  go_enter Try.func11, Try.ntmps11
  by_cases hs : rs.size ≤ 100
  · have hI : (rs.size : Int) ≤ 100 := by omega
    go_wp2_with fail
    go_ret
    refine ⟨?_, Ext.alloc _ _⟩
    have e : decide ((rd.size : Int) ≤ 100) = decide (rd.size ≤ 100) := decide_eq_decide.2 (by omega)
    simp only [lightR, hs, decide_true, Bool.true_and, ← e]
    rfl
  · have hI : (100 : Int) < (rs.size : Int) := by omega
    go_wp2_with fail
    go_ret
    exact ⟨by simp [lightR, hs], Ext.alloc _ _⟩
theorem one_any (r : Rule) (w : World) : Calls Try.prog 14 #[ruleV r] w fun e w' => e = .returned (ruleV r) ∧ Ext w w' := by
  obtain ⟨rs, rd, rk, rz, ra⟩ := r
  simp only [ruleV]
  go_enter Try.func14, Try.ntmps14
  go_wp2_with fail
  exact bodyPost_ret (v := .agg #[.string rs, .string rd, .int .i64 rk, .int .i64 rz, .int .i64 ra]) (by simp [results, Try.results14, go_sem]) rfl ⟨rfl, (Ext.alloc _ _).trans (Ext.alloc _ _)⟩
theorem Try.docInfo : (Try.prog.info? 38).map (fun i => (i.zero, i.size, i.bytes)) = some (some (.agg #[.string ByteArray.empty, .string ByteArray.empty, .int .i64 0, .int .i64 0, .int .i64 0]), 5, 56) := by kernel_rfl
set_option maxHeartbeats 1000000 in
theorem plain_any (v : Value) (L : List Rule) (w : World) (h : Row ruleC w v L) (hlen : L.length ≤ 100000) :
    Calls Try.prog 23 #[v] w fun e w' => ∃ u, e = .returned u ∧ Row ruleC w' u L ∧ Ext w w' := by
  obtain ⟨i1, hi1, hz3, hz4, hz5⟩ := info_parts Try.docInfo
  obtain ⟨A, n, c, rfl, hn, hnc, hcm, hr⟩ := h
  have HR := Lib.hid hr
  have HN := Lib.hid hn
  clear hr hn
  have hn1 : n ≤ 100000 := by rw [← HN.out]; exact hlen
  go_enter Try.func23, Try.ntmps23
  go_wp2_with fail
  go_loopw [3, 4] (fun o i wr => ∃ k : Nat, k ≤ n ∧ i = .int .i64 (k : Int) ∧ wr.ownsRow w.heap.size 38 5 o (L.take k).length ((L.take k).flatMap ruleC) ∧ Ext w wr) (fun _ i _ => n - (intOf i).toNat)
  case atStart => exact ⟨0, by omega, rfl, World.ownsRow_nil _ _ _ _, Ext.refl _⟩
  case round =>
    obtain ⟨k, hk, rfl, hown, hext⟩ := hrel
    by_cases hkn : k < n
    · obtain ⟨q, hq⟩ : ∃ q, L[k]? = some q := ⟨_, List.getElem?_eq_getElem (by have := HN.out; omega)⟩
      obtain ⟨ad, rfl⟩ : ∃ ad, A = some ad := row_some HR.out ruleC_len (by decide) (by have := HN.out; omega)
      have hrw := HR.out.ext hext
      have hst : L.take k ++ [q] = L.take (k + 1) := by rw [List.take_add_one, hq]; rfl
      have hlk : (L.take k).length = k := by rw [List.length_take, HN.out]; omega
      obtain ⟨qs, qd, qk, qz, qa⟩ := q
      have c0 : wr.cell? (ad.add (k * 5)) = some (.string qs) := row_cell ruleC_len hrw k 0 hq rfl
      have c1 : wr.cell? ⟨(ad.add (k * 5)).block, (ad.add (k * 5)).off + 1, none⟩ = some (.string qd) := row_field ruleC_len hrw k 1 (by decide) hq rfl
      have c2 : wr.cell? ⟨(ad.add (k * 5)).block, (ad.add (k * 5)).off + 2, none⟩ = some (.int .i64 qk) := row_field ruleC_len hrw k 2 (by decide) hq rfl
      have c3 : wr.cell? ⟨(ad.add (k * 5)).block, (ad.add (k * 5)).off + 3, none⟩ = some (.int .i64 qz) := row_field ruleC_len hrw k 3 (by decide) hq rfl
      have c4 : wr.cell? ⟨(ad.add (k * 5)).block, (ad.add (k * 5)).off + 4, none⟩ = some (.int .i64 qa) := row_field ruleC_len hrw k 4 (by decide) hq rfl
      have HO := Lib.hid hown
      have HE := Lib.hid hext
      have HST := Lib.hid hst
      have HLK := Lib.hid hlk
      clear hrw hq hst hlk hown hext
      go_wp2_with fail
      refine (one_any ⟨qs, qd, qk, qz, qa⟩ wr).mono ?_
      rintro e v1 ⟨rfl, hx⟩
      simp only [ruleV]
      have HO1 := Lib.hid (own_later HO.out hx)
      have HE1 := Lib.hid (HE.out.trans hx)
      clear hx c0 c1 c2 c3 c4
      go_wp2_with (first
        | (at_builtin
           refine app_row ruleC_len ruleC_one _ rfl (.tmp 11) (.tmp 17) 26 38 rfl i1 (.agg #[.string ByteArray.empty, .string ByteArray.empty, .int .i64 0, .int .i64 0, .int .i64 0]) 56 Try.underlying26 hi1 hz3 hz4 hz5 rfl (by decide) (by decide) w.heap.size _ (L.take k) rfl (by exact World.ownsRow.alloc HO1.out _) (Nat.le_trans HE1.out.size (Ext.alloc _ _).size) _ 1 1 [(⟨qs, qd, qk, qz, qa⟩ : Rule)] rfl rfl (by exact Rd.new _ #[_, _, _, _, _] 38) (by rw [HLK.out]; simp only [List.length_singleton]; omega) ?_
           intro v7 w7 hown7 hchg7
           have hext7 := ((Chg.of_ext (HE1.out.trans (Ext.alloc _ _))).trans hchg7).to_ext (Nat.le_refl _)
           clear hchg7))
      go_roundw
      case rel => exact ⟨k + 1, by omega, by go_num, by rw [← HST.out]; exact hown7, hext7⟩
      case measure => simp [intOf]; omega
    · obtain rfl : k = n := by omega
      rw [List.take_of_length_le (by rw [HN.out]; exact Nat.le_refl _)] at hown
      have HO := Lib.hid hown
      clear hown
      go_wp2_with fail
      go_ret
      exact ⟨_, rfl, own_row HO.out, hext⟩
end Go.Proofs.Ytdahdghphjlmfaa
