/- The walks of bits.Writer: a bit, a number, how many bits, the bytes. -/
import Derived.Test.YtpdebandcmhbcaaMem
import Derived.Test.YtpdebandcmhbcaaBitP
import Derived.Test.YtpdebandcmhbcaaByt
import Derived.Laws.BitsAllLaws
import Derived.Deep.RegionLaw
namespace Go.Proofs.Ytpdebandcmhbcaa
open Go.RowKit Bit
set_option linter.unusedVariables false





/-- A writer at block g, from block B on, that has the bits l. -/
def Wr (B : Nat) (w : World) (g : Nat) (l : List Bool) : Prop :=
  ∃ bv bs, w.heap[g]? = some (.cells #[bv, .int .i64 (l.length : Int)] 28 (0, 0)) ∧ B ≤ g ∧ w.ownsRow B 5 1 bv bs.length (bs.map byteV) ∧ Packed l bs

theorem or_val (y b s : Nat) (hy : y < 256) (hb : b ≤ 1) (hs : s ≤ 7) : bits BinOp.or IntKind.u8 (y : Int) ((b : Int) * 2 ^ s % 256) = ((y ||| (b <<< s) : Nat) : Int) := by
  have h1 : b <<< s < 256 := by
    rw [Nat.shiftLeft_eq]
    have h2 : 2 ^ s ≤ 2 ^ 7 := Nat.pow_le_pow_right (by omega) hs
    have h3 : b * 2 ^ s ≤ 1 * 2 ^ s := Nat.mul_le_mul_right _ hb
    have h4 : (2 : Nat) ^ 7 = 128 := rfl
    omega
  have h5 : (b : Int) * 2 ^ s % 256 = ((b <<< s : Nat) : Int) := by
    rw [Nat.shiftLeft_eq] at *
    have : ((b * 2 ^ s : Nat) : Int) = (b : Int) * 2 ^ s := by simp
    rw [← this]
    omega
  rw [h5, u8_or_nat y _ hy h1]
theorem or_lt (y b s : Nat) (hy : y < 256) (hb : b ≤ 1) (hs : s ≤ 7) : y ||| (b <<< s) < 256 := by
  refine Nat.or_lt_two_pow (n := 8) hy ?_
  rw [Nat.shiftLeft_eq]
  have h2 : 2 ^ s ≤ 2 ^ 7 := Nat.pow_le_pow_right (by omega) hs
  have h3 : b * 2 ^ s ≤ 1 * 2 ^ s := Nat.mul_le_mul_right _ hb
  have h4 : (2 : Nat) ^ 7 = 128 := rfl
  show _ < 256
  omega

/-- What the last two stores of a bit leave. -/
theorem one_end {B g r bn cap : Nat} {l : List Bool} {x : Bool} {w : World} {bs : List UInt8} {j n : Nat} {y : UInt8} {c0 c1 : Value}
    (hg : w.heap[g]? = some (.cells #[c0, c1] 28 (0, 0))) (hc0 : c0 = .slice (some ⟨r, 0, none⟩) bn cap) (hBg : B ≤ g) (hBr : B ≤ r)
    (hown : w.ownsRow B 5 1 (.slice (some ⟨r, 0, none⟩) bn cap) bn (bs.map byteV)) (hbn : bs.length = bn) (hn : l.length = n)
    (hp : Packed (l ++ [x]) (bs.set j y)) :
    Wr B ((w.setCell ⟨r, j, none⟩ (byteV y)).setCell ⟨g, 1, none⟩ (.int .i64 ((n : Int) + 1))).drew g (l ++ [x]) ∧
    Chg B [28, 5] w ((w.setCell ⟨r, j, none⟩ (byteV y)).setCell ⟨g, 1, none⟩ (.int .i64 ((n : Int) + 1))).drew := by
  obtain ⟨cur, hr⟩ := own_heap hown
  have hne : g ≠ r := blocks_ne hg hr (by decide)
  have hst := World.ownsRow.stored hown j (byteV y)
  have hg1 : (w.setCell ⟨r, j, none⟩ (byteV y)).heap[g]? = some (.cells #[c0, c1] 28 (0, 0)) := by
    rw [heap_setCell_other w ⟨r, j, none⟩ g _ hne]; exact hg
  have hchg2 : Chg B [28] (w.setCell ⟨r, j, none⟩ (byteV y)) ((w.setCell ⟨r, j, none⟩ (byteV y)).setCell ⟨g, 1, none⟩ (.int .i64 ((n : Int) + 1))) := Chg.store _ hg1 (by simp) hBg
  have hchg1 : Chg B [5] w (w.setCell ⟨r, j, none⟩ (byteV y)) := Chg.store _ hr (by simp) hBr
  refine ⟨⟨c0, bs.set j y, ?_, hBg, ?_, hp⟩, ((hchg1.mono (by simp)).trans (hchg2.mono (by simp))).drew⟩
  · show ((w.setCell ⟨r, j, none⟩ (byteV y)).setCell ⟨g, 1, none⟩ (.int .i64 ((n : Int) + 1))).heap[g]? = _
    rw [heap_setCell_same _ g 1 _ _ _ hg1, List.length_append, hn]
    rfl
  · show ((w.setCell ⟨r, j, none⟩ (byteV y)).setCell ⟨g, 1, none⟩ (.int .i64 ((n : Int) + 1))).ownsRow B 5 1 c0 _ _
    rw [List.length_set, hbn, hc0, List.map_set]
    exact own_chg hst.1 hchg2 (by decide)

/-- Appending a zero byte to the writer's bytes. -/
theorem wr_grow {P : Program} (B g : Nat) (bv c1 : Value) (bs : List UInt8) (w : World) (hg : w.heap[g]? = some (.cells #[bv, c1] 28 (0, 0))) (hBg : B ≤ g) (hown : w.ownsRow B 5 1 bv bs.length (bs.map byteV)) (hB : B ≤ w.heap.size) (hbs : bs.length ≤ 4294967296)
    {ops : Array Oper} {rest : List Oper} {o : Oper} {a : Act} {Q : Exit → Act → World → Prop} (hgd : o.guard = none) (s x : Operand)
    (ho : o.op = .call { callee := .builtin .append, args := #[s, x], argTypes := #[26, 26] }) (i : TypeInfo) (ht : P.underlying 26 = some (.slice 5)) (hi : P.info? 5 = some i) (hz : i.zero = some (.int .u8 0)) (hsize : i.size = 1) (hby : i.bytes = 1)
    (hs : a.eval s = bv) (hx : a.eval x = .slice (some ⟨w.heap.size, 0, none⟩) 1 1)
    (h : ∀ r cap w1, w1.heap[g]? = some (.cells #[bv, c1] 28 (0, 0)) → w1.ownsRow B 5 1 (.slice (some ⟨r, 0, none⟩) (bs.length + 1) cap) (bs.length + 1) ((bs ++ [0]).map byteV) → B ≤ r → bs.length + 1 ≤ cap → cap ≤ maxLen → g ≠ r → Chg B [28, 5] w w1 → wpList P ops Q rest (a.put o.dst (.slice (some ⟨r, 0, none⟩) (bs.length + 1) cap)) w1) :
    wpList P ops Q (o :: rest) a (w.alloc (.cells #[.int .u8 0] 5)) := by
  have hlt : g < w.heap.size := (Array.getElem?_eq_some_iff.1 hg).1
  have hga : (w.alloc (.cells #[.int .u8 0] 5)).heap[g]? = some (.cells #[bv, c1] 28 (0, 0)) := by
    rw [(Ext.alloc w _).block g hlt]; exact hg
  have howna : (w.alloc (.cells #[.int .u8 0] 5)).ownsRow B 5 1 bv bs.length (bs.map byteV) := World.ownsRow.alloc hown _
  refine wpList_append_at _ hgd s x 26 ho B 5 i (.int .u8 0) 1 1 ht hi hz hsize hby rfl (by decide) bv bs.length (bs.map byteV) hs howna (some ⟨w.heap.size, 0, none⟩) 1 1 [.int .u8 0] hx rfl (Rd.new w #[.int .u8 0] 5) (by simp [Value.oneCell']) (by simp only [maxLen]; omega) (by omega) (by simp; omega) (by omega) ?_
  intro r cap w1 happ hBr hcap hcm
  have hg1 : w1.heap[g]? = some (.cells #[bv, c1] 28 (0, 0)) := by
    rw [happ.grown.block g (by simp; omega) (own_ne howna hga (by decide)).symm]
    exact hga
  have hown1 : w1.ownsRow B 5 1 (.slice (some ⟨r, 0, none⟩) (bs.length + 1) cap) (bs.length + 1) ((bs ++ [0]).map byteV) := by
    have := happ.own
    rw [List.map_append]
    exact this
  obtain ⟨cur, hr⟩ := own_heap hown1
  exact h r cap w1 hg1 hown1 hBr hcap hcm (blocks_ne hg1 hr (by decide)) (((Chg.refl B _ w).alloc _).trans (happ.chg howna (by simp) (Nat.le_refl _)))

set_option maxHeartbeats 1000000 in
theorem one_any (B g : Nat) (l : List Bool) (x : Bool) (w : World) (h : Wr B w g l) (hl : l.length ≤ 4294967296) (hB : B ≤ w.heap.size) :
    Calls Try.prog 44 #[.pointer (some ⟨g, 0, none⟩), .int .u8 (x.toNat : Int)] w fun e w' => e = .returned (.tuple #[]) ∧ Wr B w' g (l ++ [x]) ∧ Chg B [28, 5] w w' := by
  obtain ⟨i0, hi0, hz0, hz1, hz2⟩ := info_parts Try.u8Info
  obtain ⟨bv, bs, hg, hBg, hown, hpk⟩ := h
  have c0 : w.cell? ⟨g, 0, none⟩ = some bv := heap_cell hg 0
  have c1 : w.cell? ⟨g, 1, none⟩ = some (.int .i64 (l.length : Int)) := heap_cell hg 1
  have f0 := heap_frozen hg 0
  have f1 := heap_frozen hg 1
  have hx : x.toNat ≤ 1 := by cases x <;> simp
  have HG := Lib.hid hg
  have HP := Lib.hid hpk
  clear hg hpk
  generalize hn : l.length = n at c0 c1 hl
  have HN := Lib.hid hn
  clear hn
  have hm7 : 7 - n % 8 ≤ 7 := by omega
  by_cases hr : n % 8 = 0
  · have hr1 : ((n : Int) % 8 == 0) = true := by rw [beq_iff_eq]; omega
    have hbl : n / 8 = bs.length := by
      have := HP.out.1; rw [HN.out] at *; omega
    have HR := Lib.hid hr
    have HBL := Lib.hid hbl
    have hbs32 : bs.length ≤ 4294967296 := by omega
    clear hr hbl
    have HOWN := Lib.hid hown
    clear hown
    go_enter Try.func44, Try.ntmps44
    go_wp2_with (first
      | (at_builtin
         refine wr_grow B g bv (.int .i64 (n : Int)) bs w (by have := HG.out; rw [HN.out] at this; exact this) hBg HOWN.out hB hbs32 rfl (.tmp 14) (.tmp 15) rfl i0 rfl hi0 hz0 hz1 hz2 rfl rfl ?_
         intro r cap w1 hg1 hown1 hBr hcap hcm hne hchg
         have d0 : w1.cell? ⟨g, 0, none⟩ = some bv := heap_cell hg1 0
         have d1 : w1.cell? ⟨g, 1, none⟩ = some (.int .i64 (n : Int)) := heap_cell hg1 1
         have e0 := heap_frozen hg1 0
         have e1 := heap_frozen hg1 1
         have HG1 := Lib.hid hg1
         have HOWN1 := Lib.hid hown1
         have HCHG := Lib.hid hchg
         clear hg1 hown1 hchg c0 c1 f0 f1))
    have hg2 : (w1.setCell ⟨g, 0, none⟩ (.slice (some ⟨r, 0, none⟩) (bs.length + 1) cap)).heap[g]? = some (.cells #[.slice (some ⟨r, 0, none⟩) (bs.length + 1) cap, .int .i64 (n : Int)] 28 (0, 0)) := heap_setCell_same _ g 0 _ _ _ HG1.out
    have hchg2 : Chg B [28] w1 (w1.setCell ⟨g, 0, none⟩ (.slice (some ⟨r, 0, none⟩) (bs.length + 1) cap)) := Chg.store _ HG1.out (by simp) hBg
    have hown2 := own_chg HOWN1.out hchg2 (by decide)
    have g0 := heap_cell hg2 0
    have g1 := heap_cell hg2 1
    have k0 := heap_frozen hg2 0
    have k1 := heap_frozen hg2 1
    obtain ⟨cur, hr2⟩ := own_heap hown2
    have k2 := heap_frozen hr2 (n / 8)
    have g2 : (w1.setCell ⟨g, 0, none⟩ (.slice (some ⟨r, 0, none⟩) (bs.length + 1) cap)).cell? ⟨r, n / 8, none⟩ = some (.int .u8 ((0 : Nat) : Int)) := by
      have := hown2.cells (g := r) rfl (n / 8) (byteV 0) (by rw [HBL.out]; simp)
      rw [add_at] at this
      exact this
    have hblI : (n : Int) / 8 < ((bs.length + 1 : Nat) : Int) := by have := HBL.out; omega
    have hbl0 : (0 : Int) ≤ (n : Int) / 8 := by omega
    generalize hw2 : w1.setCell ⟨g, 0, none⟩ (.slice (some ⟨r, 0, none⟩) (bs.length + 1) cap) = w2 at *
    have HW2 := Lib.hid hw2
    have HG2 := Lib.hid hg2
    have HCHG2 := Lib.hid hchg2
    have HOWN2 := Lib.hid hown2
    have HN1 := Lib.hid hr2
    clear hw2 hg2 hchg2 hown2 hr2 d0 d1 e0 e1
    have hl1 : (bs.length + 1 : Nat) ≤ 4294967297 := by omega
    generalize hbn : bs.length + 1 = bn at *
    have HBN := Lib.hid hbn
    clear hbn
    go_region
    all_goals go_wp2
    go_end0
    obtain ⟨v, hv⟩ : ∃ v : UInt8, v.toNat = 0 ||| (x.toNat <<< (7 - n % 8)) := ⟨UInt8.ofNat (0 ||| (x.toNat <<< (7 - n % 8))), UInt8.toNat_ofNat_of_lt' (or_lt 0 _ _ (by decide) hx hm7)⟩
    have hov : bits BinOp.or IntKind.u8 0 ((x.toNat : Int) * 2 ^ (7 - n % 8) % 256) = (v.toNat : Int) := by
      have := or_val 0 x.toNat _ (by decide) hx hm7
      rw [hv]; exact this
    rw [hov]
    have hend := one_end (w := w2) (bs := bs ++ [0]) (y := v) (j := n / 8) (x := x) HG2.out rfl hBg hBr HOWN2.out (by have := HBN.out; simp; omega) HN.out (by
      have hv7 : v.toNat = x.toNat <<< 7 := by rw [hv, HR.out]; simp
      have := HP.out.new x v (by rw [HN.out]; exact HR.out) hv7
      rw [HBL.out]
      simpa using this)
    exact ⟨rfl, hend.1, HCHG.out.trans ((HCHG2.out.mono (by simp)).trans hend.2)⟩
  · have hr1 : ((n : Int) % 8 == 0) = false := by rw [beq_eq_false_iff_ne]; omega
    have HR := Lib.hid hr
    clear hr
    have hbl : n / 8 < bs.length := by
      have := HP.out.1; have := HR.out; rw [HN.out] at *; omega
    rcases hown.2 with ⟨_, h0⟩ | ⟨r, cap, cur, rfl, hBr, hrow, hnc, hcm, hcs, htk⟩
    · exfalso; omega
    have f2 := heap_frozen hrow (n / 8)
    have c3 : w.cell? ⟨r, n / 8, none⟩ = some (.int .u8 ((bs.getD (n / 8) 0).toNat : Int)) := by
      have := hown.cells (g := r) rfl (n / 8) _ (byt_get bs (n / 8) hbl)
      rw [add_at] at this
      rw [this, List.getD_eq_getElem?_getD, List.getElem?_eq_getElem hbl]; rfl
    have hne : g ≠ r := blocks_ne HG.out hrow (by decide)
    generalize hy : (bs.getD (n / 8) 0).toNat = y at c3
    have hy8 : y < 256 := by rw [← hy]; exact UInt8.toNat_lt _
    have HY := Lib.hid hy
    generalize hbn : bs.length = bn at hbl hown hnc c0
    have hblI : (n : Int) / 8 < (bn : Int) := by omega
    have hbl0 : (0 : Int) ≤ (n : Int) / 8 := by omega
    have HBN := Lib.hid hbn
    have HOWN := Lib.hid hown
    clear hy hbn hrow hcs htk hown
    go_enter Try.func44, Try.ntmps44
    go_wp2
    go_region
    all_goals go_wp2
    go_end0
    rw [or_val y x.toNat _ hy8 hx hm7]
    obtain ⟨v, hv⟩ : ∃ v : UInt8, v.toNat = y ||| (x.toNat <<< (7 - n % 8)) := ⟨UInt8.ofNat (y ||| (x.toNat <<< (7 - n % 8))), UInt8.toNat_ofNat_of_lt' (or_lt _ _ _ hy8 hx hm7)⟩
    rw [← hv]
    have hend := one_end (y := v) (j := n / 8) (x := x) (c1 := .int .i64 (l.length : Int)) (by have := HG.out; rw [HBN.out] at this; exact this) rfl hBg hBr HOWN.out HBN.out HN.out (by
      have := HP.out.set x v (by rw [HN.out]; exact HR.out) (by rw [HN.out, HY.out]; exact hv)
      rw [HN.out] at this
      exact this)
    exact ⟨rfl, hend.1, hend.2⟩

end Go.Proofs.Ytpdebandcmhbcaa
