/- The walks of package sets: each function answers what the plain law says, and leaves all old memory as it was. -/
import Derived.Test.YtccjbmmhdbainaaLib
import Derived.Test.YtccjbmmhdbainaaSets
import Derived.Test.YtccjbmmhdbainaaRows
namespace Go.Proofs.Ytccjbmmhdbainaa
open Go.RowKit Sets

/-- A value that reads as a list of texts. -/
def Txt (w : World) (v : Value) (xs : List ByteArray) : Prop :=
  ∃ A n c, v = .slice A n c ∧ xs.length = n ∧ n ≤ c ∧ c ≤ 9223372036854775807 ∧ Rd w A (xs.map .string)

theorem Txt.ext {w w' : World} {v : Value} {xs : List ByteArray} (h : Txt w v xs) (hb : Ext w w') : Txt w' v xs := by
  obtain ⟨A, n, c, h1, h2, h3, h4, h5⟩ := h
  exact ⟨A, n, c, h1, h2, h3, h4, h5.ext hb⟩
theorem Txt.drewN {w : World} {v : Value} {xs : List ByteArray} (h : Txt w v xs) (q : Nat) : Txt (w.drewN q) v xs := h

theorem txt_get (xs : List ByteArray) (k : Nat) (hk : k < xs.length) : (xs.map Value.string)[k]? = some (.string (xs.getD k ByteArray.empty)) := by
  rw [List.getElem?_map, List.getD_eq_getElem?_getD, List.getElem?_eq_getElem hk]; rfl

theorem Try.strInfo : (Try.prog.info? 9).map (fun i => (i.zero, i.size, i.bytes)) = some (some (.string ByteArray.empty), 1, 16) := by kernel_rfl

/-- What the call owns since the world w0: the texts of out. -/
def Own (w0 w : World) (v : Value) (out : List ByteArray) : Prop := w.ownsRow w0.heap.size 9 1 v out.length (out.map .string)
theorem Own.nil (w0 w : World) : Own w0 w (.slice none 0 0) [] := World.ownsRow_nil _ _ _ _
theorem Own.drewN {w0 w : World} {v : Value} {out : List ByteArray} (h : Own w0 w v out) (q : Nat) : Own w0 (w.drewN q) v out := h
theorem Own.alloc {w0 w : World} {v : Value} {out : List ByteArray} (h : Own w0 w v out) (o : Obj) : Own w0 (w.alloc o) v out := World.ownsRow.alloc h o
theorem Own.ext {w0 w w' : World} {v : Value} {out : List ByteArray} (h : Own w0 w v out) (hb : Ext w w') : Own w0 w' v out :=
  World.ownsRow.kept (row := none) h ⟨hb.os, hb.tape, hb.output, hb.size, fun k hk _ => hb.block k hk⟩ (by
    cases hv : v.ownBlock with
    | none => exact .inl rfl
    | some k => exact .inr (by simp))
theorem Own.txt {w0 w : World} {v : Value} {out : List ByteArray} (h : Own w0 w v out) : Txt w v out := by
  unfold Own at h
  rcases h.2 with ⟨hv, h0⟩ | ⟨g, cap, cur, hv, _, _, hnc, hcm, _⟩
  · subst hv
    have : out = [] := List.eq_nil_of_length_eq_zero h0
    subst this
    exact ⟨none, 0, 0, rfl, rfl, by omega, by omega, Rd.nil _ _⟩
  · subst hv
    exact ⟨some ⟨g, 0, none⟩, out.length, cap, rfl, rfl, hnc, by simpa [maxLen] using hcm, Rd.own h⟩

theorem own_empty (w : World) : Own w (w.alloc (.cells #[] 9)) (.slice (some ⟨w.heap.size, 0, none⟩) 0 0) [] := by
  unfold Own
  exact World.ownsRow_made w #[] 0 (Nat.le_refl _) (by simp [maxLen]) (by simp)
/-- append of texts onto what the call owns. -/
theorem app_strs {ops : Array Oper} {rest : List Oper} {o : Oper} {a : Act} {Q : Exit → Act → World → Prop} (w : World) (hgd : o.guard = none) (s x : Operand)
    (ho : o.op = .call { callee := .builtin .append, args := #[s, x], argTypes := #[22, 22] })
    (w0 : World) (v : Value) (out : List ByteArray) (hs : a.eval s = v) (hown : Own w0 w v out)
    (A : Option Addr) (m c : Nat) (news : List ByteArray) (hx : a.eval x = .slice A m c) (hl : news.length = m) (hr : Rd w A (news.map .string))
    (hb : out.length + news.length ≤ 17179869184) (hext : Ext w0 w)
    (h : ∀ v' w', Own w0 w' v' (out ++ news) → Ext w0 w' → wpList Try.prog ops Q rest (a.put o.dst v') w') : wpList Try.prog ops Q (o :: rest) a w := by
  obtain ⟨i0, hi0, hz0, hz1, hz2⟩ := info_parts Try.strInfo
  subst hl
  refine wpList_append_rd w hgd s x 22 ho w0.heap.size 9 i0 (.string ByteArray.empty) 1 16 Try.underlying22 hi0 hz0 hz1 hz2 rfl (by decide) v out.length _ hs hown A news.length c (news.map .string) hx (by simp) hr
    (by intro u hu; obtain ⟨y, _, rfl⟩ := List.mem_map.1 hu; rfl) (by simp only [maxLen]; omega) (by omega) hext.size ?_
  intro v' w' happ
  refine h v' w' ?_ (happ.below hext hext.size fun k hk => (World.ownsRow.lt hown k hk).1)
  have := happ.own
  unfold Own
  rw [List.map_append, List.length_append]
  exact this

def upTo (xs : List ByteArray) (k : Nat) : Prop := ∀ j, j + 1 < k → ltB (xs.getD j ByteArray.empty) (xs.getD (j + 1) ByteArray.empty) = true

set_option maxHeartbeats 400000 in
theorem rising_any (A : Option Addr) (n c : Nat) (xs : List ByteArray) (w : World) (hn : xs.length = n) (hm : n ≤ 9223372036854775807) (hr : Rd w A (xs.map .string)) :
    Calls Try.prog 70 #[.slice A n c] w fun e w' => e = .returned (.bool (rise xs)) ∧ ∃ q, w' = w.drewN q := by
  have HN := Lib.hid hn
  have HR := Lib.hid hr
  clear hn hr
  go_enter Try.func70, Try.ntmps70
  go_wp2
  go_loopw [3] (fun i wr => ∃ k q : Nat, 1 ≤ k ∧ i = .int .i64 k ∧ wr = w.drewN q ∧ upTo xs k ∧ (k ≤ n ∨ k = 1))
    (fun i _ => n - (intOf i).toNat)
  case atStart => exact ⟨1, 0, by omega, rfl, rfl, fun j hj => by omega, .inr rfl⟩
  case round =>
    obtain ⟨k, q, hk, rfl, rfl, hup, _hkn⟩ := hrel
    have HU := Lib.hid hup
    clear hup
    by_cases hlt : k < n
    · obtain ⟨ad, rfl, hc⟩ := HR.out.some_ (by rw [List.length_map, HN.out]; omega)
      have hc1 := hc (k - 1) _ (txt_get xs (k - 1) (by rw [HN.out]; omega))
      have hc2 := hc k _ (txt_get xs k (by rw [HN.out]; omega))
      have HS := Lib.hid (⟨rfl, rfl⟩ : xs.getD (k - 1) ByteArray.empty = xs.getD (k - 1) ByteArray.empty ∧ xs.getD k ByteArray.empty = xs.getD k ByteArray.empty)
      generalize hs1 : xs.getD (k - 1) ByteArray.empty = s1 at hc1 HS
      generalize hs2 : xs.getD k ByteArray.empty = s2 at hc2 HS
      have H1 := Lib.hid hs1
      have H2 := Lib.hid hs2
      clear hs1 hs2 HS hc
      have : (0 : Int) ≤ (k : Int) - 1 := by omega
      have : (k : Int) - 1 < (n : Int) := by omega
      go_wp2_with fail
      go_quiet (fail)
      go_wp2
      · have hno : ltB s1 s2 = false := by
          have h : (!Op.bytesLess s1.toList s2.toList) = true := by assumption
          simpa [ltB] using h
        go_ret
        refine ⟨ret_bool ?_, q + nq, by simp⟩
        rw [not_rise xs (k - 1) (by rw [HN.out]; omega)]
        rw [H1.out, show k - 1 + 1 = k from by omega, H2.out]
        exact hno
      · have hyes : ltB s1 s2 = true := by
          have h : (!Op.bytesLess s1.toList s2.toList) = false := by assumption
          simpa [ltB] using h
        go_roundw
        case rel =>
          refine ⟨k + 1, _, by omega, by go_num, rfl, fun j hj => ?_, .inl (by omega)⟩
          by_cases h : j + 1 < k
          · exact HU.out j h
          · obtain rfl : j = k - 1 := by omega
            rw [H1.out, show k - 1 + 1 = k from by omega, H2.out]
            exact hyes
        case measure => simp [intOf]; omega
    · go_wp2
      go_ret
      refine ⟨ret_bool ?_, _, rfl⟩
      rw [rise_of_index xs]
      intro j hj
      exact HU.out j (by rw [HN.out] at hj; omega)

end Go.Proofs.Ytccjbmmhdbainaa
