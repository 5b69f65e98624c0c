/- The document's bits, their block known by its type; numbers read one by one. -/
import Derived.Test.YtpdebandcmhbcaaDecB
namespace Go.Proofs.Ytpdebandcmhbcaa
open Go.RowKit Bit
set_option linter.unusedVariables false

/-- A slice of bools that lies in a block of bools. -/
def BooT (w : World) (v : Value) (l : List Bool) : Prop := ∃ A n c, v = .slice A n c ∧ l.length = n ∧ n ≤ c ∧ c ≤ maxLen ∧ Rd w A (l.map .bool) ∧ ∀ ad, A = some ad → ∃ cs f, w.heap[ad.block]? = some (.cells cs 4 f)
theorem BooT.boo {w : World} {v : Value} {l : List Bool} (h : BooT w v l) : Boo w v l := by
  obtain ⟨A, n, c, h1, h2, h3, h4, h5, _⟩ := h
  exact ⟨A, n, c, h1, h2, h3, h4, h5⟩
theorem BooT.chg {B : Nat} {S : List TypeId} {w w' : World} {v : Value} {l : List Bool} (h : BooT w v l) (hc : Chg B S w w') (hS : 4 ∉ S) : BooT w' v l := by
  obtain ⟨A, n, c, h1, h2, h3, h4, h5, h6⟩ := h
  refine ⟨A, n, c, h1, h2, h3, h4, fun hne => ?_, fun ad e => ?_⟩
  · obtain ⟨ad, e, hcell⟩ := h5 hne
    obtain ⟨cs, f, hh⟩ := h6 ad e
    refine ⟨ad, e, fun j u hu => ?_⟩
    rw [World.cell?_of_block (w := w) (w' := w') (a := ad.add j) (by rw [add_block, hc.heap_type hh hS, hh])]
    exact hcell j u hu
  · obtain ⟨cs, f, hh⟩ := h6 ad e
    exact ⟨cs, f, hc.heap_type hh hS⟩
theorem BooT.ext {w w' : World} {v : Value} {l : List Bool} (h : BooT w v l) (hc : Ext w w') : BooT w' v l := h.chg (S := []) (Chg.of_ext (B := 0) hc) (by simp)
theorem cut_same {P : Program} {A : Option Addr} (t e : TypeId) (i : TypeInfo) (size : Nat) (ht : P.underlying t = some (.slice e)) (hi : P.info? e = some i) (hsz : i.size = size)
    {n c : Nat} (hc : n ≤ c) (k : Nat) (hk : k ≤ n) :
    ∀ w', (Instr.slice t (.slice A n c) none (some (.int .i64 (k : Int))) none).run P w' = .ok (.slice A k c) w' := by
  have he : P.elem t = e := by simp [Program.elem, ht]
  have hrun : ∀ w', (Instr.slice t (.slice A n c) none (some (.int .i64 (k : Int))) none).run P w' = .ok (.slice (if c = 0 then A else A.map (·.add (0 * size))) k c) w' := fun w' => by
    rw [run_slice_h w' t A n c (by rw [he]; exact ht) .i64 (k : Int) (by omega) (by omega), he]
    simp [sizeOf, typeInfo, hi, sliced, hsz]
  have hA : (if c = 0 then A else A.map (·.add (0 * size))) = A := by
    split
    · rfl
    · cases A <;> simp [Addr.add]
  exact fun w' => by rw [hrun w', hA]
theorem cut_tail {P : Program} {w : World} {A : Option Addr} {l : List Bool} (t e : TypeId) (i : TypeInfo) (ht : P.underlying t = some (.slice e)) (hi : P.info? e = some i) (hsz : i.size = 1)
    {n c : Nat} (h : Rd w A (l.map Value.bool)) (hl : l.length = n) (hc : n ≤ c) (k : Nat) (hk : k ≤ n) (htyp : ∀ ad, A = some ad → ∃ cs f, w.heap[ad.block]? = some (.cells cs 4 f)) :
    ∃ A', Rd w A' ((l.drop k).map Value.bool) ∧ (∀ w', (Instr.slice t (.slice A n c) (some (.int .i64 (k : Int))) none none).run P w' = .ok (.slice A' (n - k) (c - k)) w') ∧ ∀ ad, A' = some ad → ∃ cs f, w.heap[ad.block]? = some (.cells cs 4 f) := by
  have he : P.elem t = e := by simp [Program.elem, ht]
  have hcut := h.cut (n := n) (k := k) (size := 1) (cap := c) (by rw [List.length_map, hl, Nat.mul_one]) hc
  rw [Nat.mul_one, ← List.map_drop] at hcut
  refine ⟨_, hcut, fun w' => ?_, ?_⟩
  · rw [run_slice_l w' t A n c (by rw [he]; exact ht) .i64 (k : Int) (by omega) (by omega), he]
    simp [sizeOf, typeInfo, hi, sliced, hsz]
  · intro ad e
    split at e
    · exact htyp ad e
    · cases A with
      | none => simp at e
      | some a0 =>
        simp at e
        subst e
        rw [add_block]
        exact htyp a0 rfl
theorem own_typed {B n c : Nat} {w : World} {A : Option Addr} {xs : List Value} (h : w.ownsRow B 4 1 (.slice A n c) n xs) : ∀ ad, A = some ad → ∃ cs f, w.heap[ad.block]? = some (.cells cs 4 f) := by
  intro ad e
  subst e
  rcases h.2 with ⟨h, _⟩ | ⟨g, cap, cur, h, _, hh, _⟩
  · simp at h
  · simp at h
    obtain ⟨rfl, _⟩ := h
    exact ⟨cur, _, hh⟩
theorem rOf_typed (s : ByteArray) (m : Nat) (w : World) (hs : s.size ≤ 4194304) (hm : m ≤ 8 * s.size) :
    Calls Try.prog 22 #[.string s, .int .i64 m] w fun e w' => ∃ v, e = .returned v ∧ BooT w' v (bitsAt s 0 m) ∧ Ext w w' := by
  obtain ⟨i0, hi0, hz0, hz1, hz2⟩ := info_parts Try.boolInfo
  go_enter Try.func22, Try.ntmps22
  go_wp2
  go_loopw [5, 6] (fun o i wr => ∃ k : Nat, k ≤ s.size ∧ i = .int .i64 k ∧ OwnL w.heap.size wr o (bitsAt s 0 (8 * k)) ∧ Ext w wr) (fun _ i _ => s.size - (intOf i).toNat)
  case atStart => exact ⟨0, by omega, rfl, OwnL.nil _ _, Ext.refl _⟩
  case round =>
    obtain ⟨k, hk, rfl, hown, hext⟩ := hrel
    have HO := Lib.hid hown
    have HX := Lib.hid hext
    clear hown hext
    by_cases h1 : k < s.size
    · have hb := s[k].toNat_lt
      have hst : bitsAt s 0 (8 * k) ++ bitsOf s[k].toNat 8 = bitsAt s 0 (8 * (k + 1)) := by
        rw [of_step s k h1, ← bitsAt_add]
        rfl
      have HST := Lib.hid hst
      clear hst
      go_wp2_with (first
        | (go_at_call 35; refine (rBits_any s[k].toNat 8 wr (by omega) (by decide)).mono ?_; rintro e w1 ⟨v1, rfl, hown1, hx1⟩; obtain ⟨A1, n1, c1, rfl, hn1, hnc1, hcm1, hr1⟩ := hown1.boo; clear hown1; have HN1 := Lib.hid hn1; have HR1 := Lib.hid hr1; have HX1 := Lib.hid hx1; clear hn1 hr1 hx1)
        | (at_builtin
           refine app_bools _ rfl (.tmp 13) (.tmp 18) rfl w.heap.size _ (bitsAt s 0 (8 * k)) rfl (by exact HO.out.ext HX1.out) (Nat.le_trans HX.out.size HX1.out.size) A1 n1 c1 (bitsOf s[k].toNat 8) rfl HN1.out HR1.out (by rw [bitsAt_length, length_bitsOf]; omega) ?_
           intro v2 w2 hown2 hchg2
           have hext2 := ext_own (HX.out.trans HX1.out) hchg2
           clear hchg2))
      go_roundw
      case rel => exact ⟨k + 1, by omega, by go_num, by rw [← HST.out]; exact hown2, hext2⟩
      case measure => simp [intOf]; omega
    · obtain rfl : k = s.size := by omega
      obtain ⟨A, c, rfl, hnc, hcm, hr⟩ := own_slice HO.out
      have htyp := own_typed HO.out
      have hl8 : (bitsAt s 0 (8 * s.size)).length = 8 * s.size := bitsAt_length _ _ _
      rw [hl8] at hnc ⊢
      have hsl := cut_same (P := Try.prog) (A := A) 31 4 i0 1 Try.underlying31 hi0 hz1 hnc m hm
      have HA2 := Lib.hid (hr.take m)
      have HT := Lib.hid htyp
      clear hr htyp
      go_wp2
      go_ret
      refine ⟨_, rfl, ⟨A, m, c, rfl, bitsAt_length _ _ _, by omega, hcm, ?_, HT.out⟩, HX.out⟩
      have := HA2.out
      rw [← List.map_take, bits_take _ _ _ hm] at this
      exact this
end Go.Proofs.Ytpdebandcmhbcaa
