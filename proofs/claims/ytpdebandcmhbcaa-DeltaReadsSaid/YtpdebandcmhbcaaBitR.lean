/- Slices of bools, and the walks of the reference's Bits, Number, Fits. -/
import Derived.Test.YtpdebandcmhbcaaMem
import Derived.Test.YtpdebandcmhbcaaBitP
import Derived.Test.YtpdebandcmhbcaaByt
namespace Go.Proofs.Ytpdebandcmhbcaa
open Go.RowKit Bit
set_option linter.unusedVariables false

theorem Try.boolInfo : (Try.prog.info? 4).map (fun i => (i.zero, i.size, i.bytes)) = some (some (.bool false), 1, 1) := by kernel_rfl

/-- A slice of bools. -/
def Boo (w : World) (v : Value) (l : List Bool) : Prop := ∃ A n c, v = .slice A n c ∧ l.length = n ∧ n ≤ c ∧ c ≤ maxLen ∧ Rd w A (l.map .bool)
theorem Boo.ext {w w' : World} {v : Value} {l : List Bool} (h : Boo w v l) (hb : Ext w w') : Boo w' v l := by
  obtain ⟨A, n, c, h1, h2, h3, h4, h5⟩ := h
  exact ⟨A, n, c, h1, h2, h3, h4, h5.ext hb⟩
/-- What the call owns of block B on. -/
def OwnL (B : Nat) (w : World) (v : Value) (out : List Bool) : Prop := w.ownsRow B 4 1 v out.length (out.map .bool)
theorem OwnL.nil (B : Nat) (w : World) : OwnL B w (.slice none 0 0) [] := World.ownsRow_nil _ _ _ _
theorem OwnL.chg {B B' : Nat} {S : List TypeId} {w w' : World} {v : Value} {l : List Bool} (h : OwnL B w v l) (hc : Chg B' S w w') (hS : 4 ∉ S) : OwnL B w' v l := own_chg h hc hS
theorem OwnL.ext {B : Nat} {w w' : World} {v : Value} {l : List Bool} (h : OwnL B w v l) (hc : Ext w w') : OwnL B w' v l := h.chg (S := []) (Chg.of_ext (B := 0) hc) (by simp)
theorem OwnL.boo {B : Nat} {w : World} {v : Value} {l : List Bool} (h : OwnL B w v l) : Boo w v l := by
  obtain ⟨A, c, rfl, h1, h2, h3⟩ := own_slice h
  exact ⟨A, _, c, rfl, rfl, h1, h2, h3⟩

/-- append of bools onto what the call owns. -/
theorem app_bools {ops : Array Oper} {rest : List Oper} {o : Oper} {a : Act} {Q : Exit → Act → World → Prop} (w : World) (hgd : o.guard = none) (s x : Operand)
    (ho : o.op = .call { callee := .builtin .append, args := #[s, x], argTypes := #[31, 31] })
    (B : Nat) (v : Value) (out : List Bool) (hs : a.eval s = v) (hown : OwnL B w v out) (hB : B ≤ w.heap.size)
    (A : Option Addr) (m c : Nat) (news : List Bool) (hx : a.eval x = .slice A m c) (hl : news.length = m) (hr : Rd w A (news.map .bool))
    (hb : out.length + news.length ≤ 17179869184)
    (h : ∀ v' w', OwnL B w' v' (out ++ news) → Chg B [4] w w' → wpList Try.prog ops Q rest (a.put o.dst v') w') : wpList Try.prog ops Q (o :: rest) a w := by
  obtain ⟨i0, hi0, hz0, hz1, hz2⟩ := info_parts Try.boolInfo
  subst hl
  refine wpList_append_rd w hgd s x 31 ho B 4 i0 (.bool false) 1 1 Try.underlying31 hi0 hz0 hz1 hz2 rfl (by decide) v out.length _ hs hown A news.length c (news.map .bool) hx (by simp) hr
    (by intro u hu; obtain ⟨y, _, rfl⟩ := List.mem_map.1 hu; rfl) (by simp only [maxLen]; omega) (by omega) hB ?_
  intro v' w' happ
  refine h v' w' ?_ (happ.chg hown (by simp) (Nat.le_refl _))
  have := happ.own
  unfold OwnL
  rw [List.map_append, List.length_append]
  exact this
/-- .. where nothing of w0's memory turns. -/
theorem ext_own {S : List TypeId} {w0 w w' : World} (h : Ext w0 w) (hc : Chg w0.heap.size S w w') : Ext w0 w' := ((Chg.of_ext h).trans hc).to_ext (Nat.le_refl _)

theorem half (u j : Nat) : (u / 2 ^ j) / 2 = u / 2 ^ (j + 1) := by rw [Nat.div_div_eq_div_mul, Nat.pow_succ]
theorem bit_odd (u j : Nat) : (((u / 2 ^ j : Nat) : Int) % 2 == 1) = u.testBit j := by
  rw [Nat.testBit_eq_decide_div_mod_eq]
  rcases Nat.mod_two_eq_zero_or_one (u / 2 ^ j) with h | h
  · rw [h, beq_eq_false_iff_ne.2 (by omega)]; rfl
  · rw [h, beq_iff_eq.2 (by omega)]; rfl

set_option maxHeartbeats 1000000 in
theorem rBits_any (u m : Nat) (w : World) (hu : u < 18446744073709551616) (hm : m ≤ 64) :
    Calls Try.prog 35 #[.int .u64 u, .int .i64 m] w fun e w' => ∃ v, e = .returned v ∧ OwnL w.heap.size w' v (bitsOf u m) ∧ Ext w w' := by
  go_enter Try.func35, Try.ntmps35
  go_wp2
  go_loopw [5, 6] (fun o i wr => ∃ k : Nat, k ≤ m ∧ i = .int .i64 k ∧ OwnL w.heap.size wr o ((bitsOf u m).take k) ∧ Ext w wr) (fun _ i _ => m - (intOf i).toNat)
  case atStart => exact ⟨0, by omega, rfl, OwnL.nil _ _, Ext.refl _⟩
  case round =>
    obtain ⟨k, hk, rfl, hown, hext⟩ := hrel
    by_cases h1 : k < m
    · have HO := Lib.hid hown
      have HX := Lib.hid hext
      have hlen : ((bitsOf u m).take k).length = k := by rw [List.length_take, length_bitsOf]; omega
      have HLN := Lib.hid hlen
      clear hown hext hlen
      go_wp2
      go_loop [7, 8] (fun n q => ∃ j : Nat, k + j ≤ m - 1 ∧ q = .int .i64 ((k + j : Nat) : Int) ∧ n = .int .u64 ((u / 2 ^ j : Nat) : Int)) (fun _ q => m - (intOf q).toNat)
      case atStart => exact ⟨0, by omega, by simp, by simp⟩
      case round =>
        obtain ⟨j, hj, rfl, rfl⟩ := hrel
        have hle : u / 2 ^ j ≤ u := Nat.div_le_self _ _
        have HF := Lib.hid (half u j)
        have HB := Lib.hid (bit_odd u j)
        generalize hx : u / 2 ^ j = x at *
        have HX2 := Lib.hid hx
        clear hx
        generalize ha : k + j = a at *
        have HA := Lib.hid ha
        clear ha
        by_cases h2 : a < m - 1
        · go_wp2
          go_round
          case rel => exact ⟨j + 1, by have := HA.out; omega, by have := HA.out; go_num, by rw [← HF.out]; go_num⟩
          case measure => simp [intOf]; omega
        · have hst : (bitsOf u m).take k ++ [u.testBit (m - 1 - k)] = (bitsOf u m).take (k + 1) := (bitsOf_step u m k h1).symm
          have hjm : j = m - 1 - k := by have := HA.out; omega
          have HST := Lib.hid hst
          have HJ := Lib.hid hjm
          clear hst hjm
          go_wp2_with (first
            | (at_builtin
               refine app_bools _ rfl (.tmp 24) (.tmp 28) rfl w.heap.size _ ((bitsOf u m).take k) rfl (by exact HO.out.ext (Ext.alloc _ _)) (Nat.le_trans HX.out.size (Ext.alloc wr _).size) (some ⟨wr.heap.size, 0, none⟩) 1 1 [u.testBit (m - 1 - k)] rfl rfl (by rw [List.map_singleton, ← HJ.out, ← HB.out]; exact Rd.new wr #[_] 4) (by have := HLN.out; simp only [List.length_singleton]; omega) ?_
               intro v1 w1 hown1 hchg1
               have hext1 := ext_own (HX.out.trans (Ext.alloc wr _)) hchg1
               clear hchg1))
          go_roundw
          case rel => exact ⟨k + 1, by omega, by go_num, by rw [← HST.out]; exact hown1, hext1⟩
          case measure => simp [intOf]; omega
    · obtain rfl : k = m := by omega
      go_wp2
      go_ret
      exact ⟨_, rfl, by rw [← List.take_of_length_le (Nat.le_of_eq (length_bitsOf u k))]; exact hown, hext⟩
end Go.Proofs.Ytpdebandcmhbcaa
