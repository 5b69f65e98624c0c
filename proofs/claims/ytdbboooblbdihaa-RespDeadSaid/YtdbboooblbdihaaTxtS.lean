/- Slices of texts; the document's Same. -/
import Derived.Test.YtdbboooblbdihaaLib
import Derived.Test.YtdbboooblbdihaaMem
import Derived.Test.YtdbboooblbdihaaRows
import Derived.Test.YtdbboooblbdihaaSets
namespace Go.Proofs.Ytdbboooblbdihaa
open Go.RowKit Sets
set_option linter.unusedVariables false
set_option maxRecDepth 100000


/-- A value that reads as a list of texts. -/
def Txt (w : World) (v : Value) (xs : List ByteArray) : Prop :=
  ∃ A n c, v = .slice A n c ∧ xs.length = n ∧ n ≤ c ∧ c ≤ 9223372036854775807 ∧ Rd w A (xs.map .string)

theorem Txt.ext {w w' : World} {v : Value} {xs : List ByteArray} (h : Txt w v xs) (hb : Ext w w') : Txt w' v xs := by
  obtain ⟨A, n, c, h1, h2, h3, h4, h5⟩ := h
  exact ⟨A, n, c, h1, h2, h3, h4, h5.ext hb⟩
theorem Txt.drewN {w : World} {v : Value} {xs : List ByteArray} (h : Txt w v xs) (q : Nat) : Txt (w.drewN q) v xs := h

theorem txt_get (xs : List ByteArray) (k : Nat) (hk : k < xs.length) : (xs.map Value.string)[k]? = some (.string (xs.getD k ByteArray.empty)) := by
  rw [List.getElem?_map, List.getD_eq_getElem?_getD, List.getElem?_eq_getElem hk]; rfl

theorem Try.strInfo : (Try.prog.info? 9).map (fun i => (i.zero, i.size, i.bytes)) = some (some (.string ByteArray.empty), 1, 16) := by kernel_rfl

/-- What the call owns since the world w0: the texts of out. -/
def Own (w0 w : World) (v : Value) (out : List ByteArray) : Prop := w.ownsRow w0.heap.size 9 1 v out.length (out.map .string)
theorem Own.nil (w0 w : World) : Own w0 w (.slice none 0 0) [] := World.ownsRow_nil _ _ _ _
theorem Own.drewN {w0 w : World} {v : Value} {out : List ByteArray} (h : Own w0 w v out) (q : Nat) : Own w0 (w.drewN q) v out := h
theorem Own.alloc {w0 w : World} {v : Value} {out : List ByteArray} (h : Own w0 w v out) (o : Obj) : Own w0 (w.alloc o) v out := World.ownsRow.alloc h o
theorem Own.ext {w0 w w' : World} {v : Value} {out : List ByteArray} (h : Own w0 w v out) (hb : Ext w w') : Own w0 w' v out :=
  World.ownsRow.kept (row := none) h ⟨hb.os, hb.tape, hb.output, hb.size, fun k hk _ => hb.block k hk⟩ (by
    cases hv : v.ownBlock with
    | none => exact .inl rfl
    | some k => exact .inr (by simp))
theorem Own.txt {w0 w : World} {v : Value} {out : List ByteArray} (h : Own w0 w v out) : Txt w v out := by
  unfold Own at h
  rcases h.2 with ⟨hv, h0⟩ | ⟨g, cap, cur, hv, _, _, hnc, hcm, _⟩
  · subst hv
    have : out = [] := List.eq_nil_of_length_eq_zero h0
    subst this
    exact ⟨none, 0, 0, rfl, rfl, by omega, by omega, Rd.nil _ _⟩
  · subst hv
    exact ⟨some ⟨g, 0, none⟩, out.length, cap, rfl, rfl, hnc, by simpa [maxLen] using hcm, Rd.own h⟩

theorem own_empty (w : World) : Own w (w.alloc (.cells #[] 9)) (.slice (some ⟨w.heap.size, 0, none⟩) 0 0) [] := by
  unfold Own
  exact World.ownsRow_made w #[] 0 (Nat.le_refl _) (by simp [maxLen]) (by simp)
/-- append of texts onto what the call owns. -/
theorem app_strs {ops : Array Oper} {rest : List Oper} {o : Oper} {a : Act} {Q : Exit → Act → World → Prop} (w : World) (hgd : o.guard = none) (s x : Operand)
    (ho : o.op = .call { callee := .builtin .append, args := #[s, x], argTypes := #[36, 36] })
    (w0 : World) (v : Value) (out : List ByteArray) (hs : a.eval s = v) (hown : Own w0 w v out)
    (A : Option Addr) (m c : Nat) (news : List ByteArray) (hx : a.eval x = .slice A m c) (hl : news.length = m) (hr : Rd w A (news.map .string))
    (hb : out.length + news.length ≤ 17179869184) (hext : Ext w0 w)
    (h : ∀ v' w', Own w0 w' v' (out ++ news) → Ext w0 w' → wpList Try.prog ops Q rest (a.put o.dst v') w') : wpList Try.prog ops Q (o :: rest) a w := by
  obtain ⟨i0, hi0, hz0, hz1, hz2⟩ := info_parts Try.strInfo
  subst hl
  refine wpList_append_rd w hgd s x 36 ho w0.heap.size 9 i0 (.string ByteArray.empty) 1 16 Try.underlying36 hi0 hz0 hz1 hz2 rfl (by decide) v out.length _ hs hown A news.length c (news.map .string) hx (by simp) hr
    (by intro u hu; obtain ⟨y, _, rfl⟩ := List.mem_map.1 hu; rfl) (by simp only [maxLen]; omega) (by omega) hext.size ?_
  intro v' w' happ
  refine h v' w' ?_ (happ.below hext hext.size fun k hk => (World.ownsRow.lt hown k hk).1)
  have := happ.own
  unfold Own
  rw [List.map_append, List.length_append]
  exact this
/-- Are two lists alike? -/
def sameB (xs ys : List ByteArray) : Bool := decide (xs = ys)
def sameTo (xs ys : List ByteArray) (k : Nat) : Prop := xs.take k = ys.take k

theorem take_step (xs : List ByteArray) (k : Nat) (h : k < xs.length) : xs.take (k + 1) = xs.take k ++ [xs.getD k ByteArray.empty] := by
  rw [List.take_succ_eq_append_getElem h]; simp [List.getD_eq_getElem?_getD, List.getElem?_eq_getElem h]
theorem drop_step (xs : List ByteArray) (k : Nat) (h : k < xs.length) : xs.drop k = xs.getD k ByteArray.empty :: xs.drop (k + 1) := by
  rw [List.drop_eq_getElem_cons h]; simp [List.getD_eq_getElem?_getD, List.getElem?_eq_getElem h]

theorem ne_of_getD {xs ys : List ByteArray} {k : Nat} (h : xs.getD k ByteArray.empty ≠ ys.getD k ByteArray.empty) : xs ≠ ys := by
  rintro rfl; exact h rfl

set_option maxHeartbeats 400000 in
theorem same_txt (va vb : Value) (xs ys : List ByteArray) (w : World) (ha : Txt w va xs) (hb : Txt w vb ys) :
    Calls Try.prog 21 #[va, vb] w fun e w' => e = .returned (.bool (sameB xs ys)) ∧ ∃ q, w' = w.drewN q := by
  obtain ⟨A, n, c, rfl, h1, h2, h3, h4⟩ := ha
  obtain ⟨B, m, d, rfl, g1, g2, g3, g4⟩ := hb
  have HN := Lib.hid (And.intro h1 g1)
  have HR := Lib.hid (And.intro h4 g4)
  clear h1 g1 h4 g4
  by_cases hnm : n = m
  · subst hnm
    have : ((n : Int) != (n : Int)) = false := by simp
    go_enter Try.func21, Try.ntmps21
    go_wp2
    go_loopw [5] (fun i wr => ∃ k q : Nat, k ≤ n ∧ i = .int .i64 k ∧ wr = w.drewN q ∧ Hid (sameTo xs ys k)) (fun i _ => n - (intOf i).toNat)
    case atStart => exact ⟨0, 0, by omega, rfl, rfl, rfl⟩
    case round =>
      obtain ⟨k, q, hk, rfl, rfl, HU⟩ := hrel
      by_cases hlt : k < n
      · obtain ⟨ad, rfl, hc⟩ := HR.out.1.some_ (by rw [List.length_map, HN.out.1]; omega)
        obtain ⟨bd, rfl, hd⟩ := HR.out.2.some_ (by rw [List.length_map, HN.out.2]; omega)
        have hc1 := hc k _ (txt_get xs k (by rw [HN.out.1]; omega))
        have hd1 := hd k _ (txt_get ys k (by rw [HN.out.2]; omega))
        generalize hs1 : xs.getD k ByteArray.empty = s1 at hc1
        generalize hs2 : ys.getD k ByteArray.empty = s2 at hd1
        have H1 := Lib.hid hs1
        have H2 := Lib.hid hs2
        clear hs1 hs2 hc hd
        have : (0 : Int) ≤ (k : Int) := by omega
        have : (k : Int) < (n : Int) := by omega
        by_cases hx : s1 = s2
        · subst hx
          have : (s1.toList == s1.toList) = true := by simp
          go_wp2_with fail
          go_quiet (fail)
          go_wp2
          go_roundw
          case rel =>
            refine ⟨k + 1, _, by omega, by go_num, rfl, ?_⟩
            unfold Hid sameTo
            rw [take_step _ _ (by rw [HN.out.1]; omega), take_step _ _ (by rw [HN.out.2]; omega), HU.out, H1.out, H2.out]
          case measure => simp [intOf]; omega
        · have h5 : (s1.toList == s2.toList) = false := by
            rw [beq_eq_false_iff_ne]
            exact fun h => hx (text_ext h)
          have HX := Lib.hid hx
          clear hx
          go_wp2_with fail
          go_quiet (fail)
          go_wp2
          go_ret
          refine ⟨ret_bool ?_, (by simp only [World.drewN_drewN]; exact ⟨_, rfl⟩)⟩
          unfold sameB
          rw [decide_eq_false]
          exact ne_of_getD (k := k) (by rw [H1.out, H2.out]; exact HX.out)
      · go_wp2
        go_ret
        refine ⟨ret_bool ?_, _, rfl⟩
        have := HU.out
        unfold sameTo at this
        rw [List.take_of_length_le (by rw [HN.out.1]; omega), List.take_of_length_le (by rw [HN.out.2]; omega)] at this
        simp [sameB, this]
  · have : ((n : Int) != (m : Int)) = true := by rw [bne_iff_ne]; omega
    have HX := Lib.hid hnm
    clear hnm
    go_enter Try.func21, Try.ntmps21
    go_wp2
    go_ret
    refine ⟨ret_bool ?_, 0, rfl⟩
    unfold sameB
    rw [decide_eq_false]
    rintro rfl
    exact HX.out (HN.out.1.symm.trans HN.out.2)

theorem same_yes (va vb : Value) (xs ys : List ByteArray) (w : World) (ha : Txt w va xs) (hb : Txt w vb ys) (h : xs = ys) :
    Calls Try.prog 21 #[va, vb] w fun e w' => e = .returned (.bool true) ∧ Ext w w' := by
  refine (same_txt va vb xs ys w ha hb).mono ?_
  rintro e w' ⟨rfl, q, rfl⟩
  exact ⟨by simp [sameB, h], Ext.drewN _ _⟩
end Go.Proofs.Ytdbboooblbdihaa
