/- The walk of delta's next. -/
import Derived.Test.YtpdebandcmhbcaaDelF
import Derived.Deep.RegionLaw
import Derived.Deep.CutRange
namespace Go.Proofs.Ytpdebandcmhbcaa
open Go.RowKit Bit
set_option linter.unusedVariables false

structure DS where
  k : Nat
  x : SV
def plainS (s : ByteArray) (n : Nat) (d : DS) : Int × DS := if d.x.e ≠ 0 then (0, d) else (wrap64 ((plainR s n d.k).1 : Int), ⟨d.k + (plainR s n d.k).2.1, { d.x with e := (plainR s n d.k).2.2 }⟩)
def codedS (s : ByteArray) (n : Nat) (d : DS) : Int × DS := if d.x.e ≠ 0 then (0, d) else (zagN (getB (bitsAt s d.k (n - d.k))).1, ⟨d.k + (getB (bitsAt s d.k (n - d.k))).2.1, { d.x with e := (getB (bitsAt s d.k (n - d.k))).2.2 }⟩)
def firstS (s : ByteArray) (n : Nat) (d : DS) : DS := ⟨(plainS s n (plainS s n d).2).2.k, { (plainS s n (plainS s n d).2).2.x with t := (plainS s n d).1, v := (plainS s n (plainS s n d).2).1 }⟩
def midS (s : ByteArray) (n : Nat) (d : DS) : DS := ⟨(codedS s n d).2.k, { (codedS s n d).2.x with step := wrap64 (d.x.step + (codedS s n d).1), t := wrap64 (d.x.t + wrap64 (d.x.step + (codedS s n d).1)) }⟩
def laterS (s : ByteArray) (n : Nat) (d : DS) : DS := ⟨(codedS s n (midS s n d)).2.k, { (codedS s n (midS s n d)).2.x with v := wrap64 (d.x.v + (codedS s n (midS s n d)).1) }⟩

structure At (B p g : Nat) (s : ByteArray) (n : Nat) (w : World) (d : DS) : Prop where
  src : Src w p g d.x
  rdr : Rdr w g s n d.k
  le : d.k ≤ n
/-- What holds of all: sizes, and where the blocks lie. -/
structure Dm (B p g : Nat) (s : ByteArray) (n : Nat) : Prop where
  hn : n ≤ 34359738368
  hn8 : n ≤ 8 * s.size
  hs : s.size ≤ 4294967296
  hg : B ≤ g
  hp : B ≤ p
section
variable {B p g : Nat} {s : ByteArray} {n : Nat} {w w' : World} {d : DS}
theorem At.ext (h : At B p g s n w d) (hx : Ext w w') : At B p g s n w' d := ⟨h.src.ext hx, h.rdr.ext hx, h.le⟩
theorem plainS_any (h : At B p g s n w d) (m : Dm B p g s n) :
    Calls Try.prog 45 #[.pointer (some ⟨p, 0, none⟩)] w fun e w' => e = .returned (.int .i64 (plainS s n d).1) ∧ At B p g s n w' (plainS s n d).2 ∧ Chg B [77, 74] w w' := by
  by_cases he : d.x.e = 0
  · unfold plainS
    rw [if_neg (by simpa using he)]
    refine (plain_any B p g d.x s n d.k w h.src h.rdr h.le m.hn m.hn8 m.hs m.hg m.hp he).mono ?_
    rintro e w1 ⟨u, k, y, rfl, hp, h1, h2, h3⟩
    rw [hp]
    refine ⟨rfl, ⟨h1, h2, ?_⟩, h3⟩
    have hle := h.le
    unfold plainR at hp
    split at hp
    · injection hp with _ hp; injection hp with hp; simp only; omega
    · injection hp with _ hp; injection hp with hp; simp only; omega
  · unfold plainS
    rw [if_pos he]
    refine (plain_err p g d.x w h.src he).mono ?_
    rintro e w1 ⟨rfl, hx⟩
    exact ⟨rfl, h.ext hx, Chg.of_ext hx⟩
theorem codedS_any (h : At B p g s n w d) (m : Dm B p g s n) :
    Calls Try.prog 46 #[.pointer (some ⟨p, 0, none⟩)] w fun e w' => e = .returned (.int .i64 (codedS s n d).1) ∧ At B p g s n w' (codedS s n d).2 ∧ Chg B [77, 74] w w' := by
  by_cases he : d.x.e = 0
  · unfold codedS
    rw [if_neg (by simpa using he)]
    refine (coded_any B p g d.x s n d.k w h.src h.rdr h.le m.hn m.hn8 m.hs m.hg m.hp he).mono ?_
    rintro e w1 ⟨u, k, y, rfl, hp, h1, h2, h3⟩
    rw [hp]
    refine ⟨rfl, ⟨h1, h2, ?_⟩, h3⟩
    have hle := h.le
    rcases get_err hp with ⟨_, hm, _⟩ | ⟨_, hm, _⟩
    · rw [bitsAt_length] at hm; simp only; omega
    · simp only; omega
  · unfold codedS
    rw [if_pos he]
    refine (coded_err p g d.x w h.src he).mono ?_
    rintro e w1 ⟨rfl, hx⟩
    exact ⟨rfl, h.ext hx, Chg.of_ext hx⟩
end
theorem at_ne {B p g : Nat} {s : ByteArray} {n : Nat} {w : World} {d : DS} (h : At B p g s n w d) : g ≠ p := by
  rintro rfl
  have h1 := h.src
  have h2 := h.rdr
  unfold Src at h1
  unfold Rdr at h2
  rw [h1] at h2
  cases h2
set_option maxHeartbeats 2000000 in
theorem next_first (B p g : Nat) (s : ByteArray) (n : Nat) (w : World) (d : DS) (h : At B p g s n w d) (m : Dm B p g s n) :
    Calls Try.prog 38 #[.pointer (some ⟨p, 0, none⟩), .bool true] w fun e w' => e = .returned (.agg #[.int .i64 (firstS s n d).x.t, .int .i64 (firstS s n d).x.v]) ∧ At B p g s n w' (firstS s n d) ∧ Chg B [77, 74] w w' := by
  have H := Lib.hid h
  have HN := Lib.hid (at_ne h)
  clear h
  go_enter Try.func38, Try.ntmps38
  go_wp2_with fail
  have hb := heap_alloc_new w (.cells #[.int .i64 0, .int .i64 0] 59 (0, 0))
  have hxa := Ext.alloc w (.cells #[.int .i64 0, .int .i64 0] 59)
  generalize w.alloc (.cells #[.int .i64 0, .int .i64 0] 59) = w1 at hb hxa ⊢
  obtain ⟨b, hbe⟩ : ∃ b, b = w.heap.size := ⟨_, rfl⟩
  rw [← hbe] at hb
  rw [← hbe]
  have hbp : b ≠ p := by
    have := (Array.getElem?_eq_some_iff.1 H.out.src).1
    omega
  have HBP := Lib.hid hbp
  have HB := Lib.hid hb
  have HX := Lib.hid hxa
  have HBE := Lib.hid hbe
  clear hb hxa hbe hbp
  refine (plainS_any (H.out.ext HX.out) m).mono ?_
  rintro e w2 ⟨rfl, ha, hc⟩
  have HA2 := Lib.hid ha
  have HC2 := Lib.hid ((Chg.of_ext HX.out).trans hc)
  have HB2 := Lib.hid (hc.heap_type HB.out (by decide))
  clear ha hc
  go_wp2_with fail
  refine (plainS_any HA2.out m).mono ?_
  rintro e w3 ⟨rfl, ha, hc⟩
  have HB3 := Lib.hid (hc.heap_type HB2.out (by decide))
  have HA3 := Lib.hid ha
  have HC3 := Lib.hid (HC2.out.trans hc)
  have hf1 := heap_frozen ha.src 1
  have hf2 := heap_frozen ha.src 2
  have hd1 := heap_cell ha.src 1
  have hd2 := heap_cell ha.src 2
  have hs1 := heap_setCell_same w3 p 1 _ _ (.int .i64 (plainS s n d).1) ha.src
  simp only [List.setIfInBounds_toArray, List.set_cons_zero, List.set_cons_succ] at hs1
  have hs2 := heap_setCell_same _ p 2 _ _ (.int .i64 (plainS s n (plainS s n d).2).1) hs1
  simp only [List.setIfInBounds_toArray, List.set_cons_zero, List.set_cons_succ] at hs2
  have hk : Kp [p] w3 ((w3.setCell ⟨p, 1, none⟩ (.int .i64 (plainS s n d).1)).setCell ⟨p, 2, none⟩ (.int .i64 (plainS s n (plainS s n d).2).1)) := (Kp.store p 1 _ (by simp) : Kp [p] _ _).and (Kp.store p 2 _ (by simp))
  have hc4 : Chg B [77, 74] w3 ((w3.setCell ⟨p, 1, none⟩ (.int .i64 (plainS s n d).1)).setCell ⟨p, 2, none⟩ (.int .i64 (plainS s n (plainS s n d).2).1)) := (Chg.store _ ha.src (by simp) m.hp).trans (Chg.store _ hs1 (by simp) m.hp)
  have hb4 := hk.heap HB3.out (by simpa using HBP.out)
  have hr4 := hk.heap ha.rdr (by simpa using HN.out)
  have e1 := heap_cell hb4 0
  have e2 := heap_cell hb4 1
  have g1 := heap_frozen hb4 0
  have g2 := heap_frozen hb4 1
  have hp1 := heap_cell hs2 1
  have hp2 := heap_cell hs2 2
  have HS2 := Lib.hid hs2
  have HC4 := Lib.hid (HC3.out.trans hc4)
  have HB4 := Lib.hid hb4
  have HR4 := Lib.hid hr4
  clear ha hc hs1 hs2 hk hc4 hb4 hr4
  go_wp2_with fail
  generalize (w3.setCell ⟨p, 1, none⟩ (.int .i64 (plainS s n d).1)).setCell ⟨p, 2, none⟩ (.int .i64 (plainS s n (plainS s n d).2).1) = w4 at *
  have s1 := heap_setCell_same _ b 0 _ _ (.int .i64 (plainS s n d).1) HB4.out
  simp only [List.setIfInBounds_toArray, List.set_cons_zero] at s1
  have s2 := heap_setCell_same _ b 1 _ _ (.int .i64 (plainS s n (plainS s n d).2).1) s1
  simp only [List.setIfInBounds_toArray, List.set_cons_zero, List.set_cons_succ] at s2
  have hk5 : Kp [b] w4 ((w4.setCell ⟨b, 0, none⟩ (.int .i64 (plainS s n d).1)).setCell ⟨b, 1, none⟩ (.int .i64 (plainS s n (plainS s n d).2).1)) := (Kp.store b 0 _ (by simp) : Kp [b] _ _).and (Kp.store b 1 _ (by simp))
  generalize (w4.setCell ⟨b, 0, none⟩ (.int .i64 (plainS s n d).1)).setCell ⟨b, 1, none⟩ (.int .i64 (plainS s n (plainS s n d).2).1) = w5 at s2 hk5 ⊢
  have q1 := heap_cell s2 0
  have q2 := heap_cell s2 1
  refine bodyPost_ret (v := .agg #[.int .i64 (plainS s n d).1, .int .i64 (plainS s n (plainS s n d).2).1]) (by simp [results, Try.results38, go_sem, q1, q2]) rfl ⟨rfl, ⟨?_, ?_, ?_⟩, ?_⟩
  · exact hk5.heap HS2.out (by simpa using HBP.out.symm)
  · exact hk5.heap HR4.out (by
      simp only [List.mem_singleton]
      intro e
      have := (Array.getElem?_eq_some_iff.1 H.out.rdr).1
      have := HBE.out
      omega)
  · exact HA3.out.le
  · refine ⟨hk5.os.trans HC4.out.os, hk5.tape.trans HC4.out.tape, hk5.output.trans HC4.out.output, Nat.le_trans HC4.out.size hk5.size, fun k hk hc => ?_⟩
    rw [hk5.block k (Nat.lt_of_lt_of_le hk HC4.out.size) (by
      simp only [List.mem_singleton]
      rw [HBE.out]
      omega)]
    exact HC4.out.block k hk hc
end Go.Proofs.Ytpdebandcmhbcaa
