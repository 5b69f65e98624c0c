/- The walk of delta's Decode. -/
import Derived.Test.YtpdebandcmhbcaaDelM
import Derived.Test.YtpdebandcmhbcaaRow
import Derived.Test.YtpdebandcmhbcaaBitR
import Derived.Test.YtpdebandcmhbcaaDelE
namespace Go.Proofs.Ytpdebandcmhbcaa
open Go.RowKit Bit
set_option linter.unusedVariables false

def runS (s : ByteArray) (n : Nat) : Nat → DS × List Smp
  | 0 => (⟨0, ⟨0, 0, 0, 0⟩⟩, [])
  | i + 1 => if (runS s n i).1.x.e ≠ 0 then runS s n i else
      (if i = 0 then firstS s n (runS s n i).1 else laterS s n (runS s n i).1, (runS s n i).2 ++ [((if i = 0 then firstS s n (runS s n i).1 else laterS s n (runS s n i).1).x.t, (if i = 0 then firstS s n (runS s n i).1 else laterS s n (runS s n i).1).x.v)])
def decR (s : ByteArray) (n many : Nat) : List Smp × Int :=
  if (runS s n many).1.x.e ≠ 0 then ([], (runS s n many).1.x.e) else if (runS s n many).1.k < n then ([], 4) else ((runS s n many).2, 0)
theorem runS_stop (s : ByteArray) (n k : Nat) (he : (runS s n k).1.x.e ≠ 0) : ∀ j, runS s n (k + j) = runS s n k
  | 0 => rfl
  | j + 1 => by
    have := runS_stop s n k he j
    show runS s n (k + j + 1) = _
    rw [runS, if_pos (by rw [this]; exact he), this]
theorem runS_len (s : ByteArray) (n : Nat) : ∀ k, (runS s n k).2.length ≤ k
  | 0 => Nat.le_refl _
  | k + 1 => by
    have := runS_len s n k
    rw [runS]
    split
    · omega
    · rw [List.length_append]; simp; omega
theorem Try.smpInfo : (Try.prog.info? 59).map (fun i => (i.zero, i.size, i.bytes)) = some (some (.agg #[.int .i64 0, .int .i64 0]), 2, 16) := by kernel_rfl
theorem dec_bad (s : ByteArray) (many samples : Int) (w : World) (hs : s.size ≤ 4294967296) (h1 : -9223372036854775808 ≤ many) (h2 : many ≤ 9223372036854775807) (h3 : -9223372036854775808 ≤ samples) (h4 : samples ≤ 9223372036854775807) (hb : (many < 0 ∨ 8 * (s.size : Int) < many) ∨ samples < 0 ∨ 100000 < samples) :
    Calls Try.prog 20 #[.string s, .int .i64 many, .int .i64 samples] w fun e w' => e = .returned (.tuple #[.slice none 0 0, .int .i64 1]) ∧ Ext w w' := by
  by_cases hm : many < 0 ∨ 8 * (s.size : Int) < many
  · go_enter Try.func20, Try.ntmps20
    go_wp2_with fail
    refine (read_bad s many w h1 h2 hm hs).mono ?_
    rintro e _ ⟨rfl, rfl⟩
    go_wp2_with fail
    go_ret2
    exact ⟨rfl, Ext.refl _⟩
  · obtain ⟨m, rfl⟩ : ∃ m : Nat, many = m := ⟨many.toNat, by omega⟩
    have hml : m ≤ 8 * s.size := by omega
    have hb2 := hb.resolve_left hm
    clear hb hm
    rcases hb2 with hb | hb
    · go_enter Try.func20, Try.ntmps20
      go_wp2_with fail
      refine (read_ok s m w hml hs).mono ?_
      rintro e w1 ⟨rfl, hr1, hx1⟩
      have HX := Lib.hid hx1
      clear hr1 hx1
      go_wp2_with fail
      go_ret2
      exact ⟨rfl, HX.out⟩
    · have hb0 : 0 ≤ samples := by omega
      go_enter Try.func20, Try.ntmps20
      go_wp2_with fail
      refine (read_ok s m w hml hs).mono ?_
      rintro e w1 ⟨rfl, hr1, hx1⟩
      have HX := Lib.hid hx1
      clear hr1 hx1
      go_wp2_with fail
      go_ret2
      exact ⟨rfl, HX.out⟩
set_option maxHeartbeats 4000000 in
theorem dec_any (s : ByteArray) (n many : Nat) (w : World) (hs : s.size ≤ 4294967296) (hn : n ≤ 8 * s.size) (hmany : many ≤ 100000) :
    Calls Try.prog 20 #[.string s, .int .i64 (n : Int), .int .i64 (many : Int)] w fun e w' => ∃ v, e = .returned (.tuple #[v, .int .i64 (decR s n many).2]) ∧ Row smpC w' v (decR s n many).1 ∧ Ext w w' := by
  obtain ⟨i1, hi1, hz3, hz4, hz5⟩ := info_parts Try.smpInfo
  have hm0 : (0 : Int) ≤ (many : Int) := by omega
  have hm1 : (many : Int) ≤ 100000 := by omega
  go_enter Try.func20, Try.ntmps20
  go_wp2_with fail
  refine (read_ok s n w hn hs).mono ?_
  rintro e w1 ⟨rfl, hr1, hx1⟩
  have HR1 := Lib.hid hr1
  have HX1 := Lib.hid hx1
  clear hr1 hx1
  go_wp2_with fail
  have hb := heap_alloc_new w1 (.cells #[.pointer (some ⟨w.heap.size, 0, none⟩), .int .i64 0, .int .i64 0, .int .i64 0, .int .i64 0] 74 (0, 0))
  have hxa := Ext.alloc w1 (.cells #[.pointer (some ⟨w.heap.size, 0, none⟩), .int .i64 0, .int .i64 0, .int .i64 0, .int .i64 0] 74)
  have hat : At w.heap.size w1.heap.size w.heap.size s n (w1.alloc (.cells #[.pointer (some ⟨w.heap.size, 0, none⟩), .int .i64 0, .int .i64 0, .int .i64 0, .int .i64 0] 74)) (runS s n 0).1 := ⟨hb, HR1.out.ext hxa, Nat.zero_le _⟩
  have hdm : Dm w.heap.size w1.heap.size w.heap.size s n := ⟨by omega, hn, hs, Nat.le_refl _, HX1.out.size⟩
  have HX2 := Lib.hid (HX1.out.trans hxa)
  clear hb hxa HR1
  generalize w1.alloc (.cells #[.pointer (some ⟨w.heap.size, 0, none⟩), .int .i64 0, .int .i64 0, .int .i64 0, .int .i64 0] 74) = w2 at hat HX2 ⊢
  generalize w1.heap.size = p at hat hdm ⊢
  have HA2 := Lib.hid hat
  have HDM := Lib.hid hdm
  clear hat hdm
  go_loopw [11, 12] (fun o i wr => ∃ k : Nat, k ≤ many ∧ i = .int .i64 (k : Int) ∧ At w.heap.size p w.heap.size s n wr (runS s n k).1 ∧ wr.ownsRow w.heap.size 59 2 o (runS s n k).2.length ((runS s n k).2.flatMap smpC) ∧ Chg w.heap.size [77, 74, 59] w2 wr) (fun _ i _ => many - (intOf i).toNat)
  case atStart => exact ⟨0, by omega, rfl, HA2.out, World.ownsRow_nil _ _ _ _, Chg.refl _ _ _⟩
  case round =>
    obtain ⟨k, hk, rfl, hat, hown, hchg⟩ := hrel
    have c4 := heap_cell hat.src 4
    have HA := Lib.hid hat
    have HO := Lib.hid hown
    have HC := Lib.hid hchg
    clear hat hown hchg
    by_cases he : (runS s n k).1.x.e = 0
    · have hz1 : ((runS s n k).1.x.e == 0) = true := by simpa using he
      have hz2 : ((runS s n k).1.x.e != 0) = false := by simpa using he
      have HE := Lib.hid he
      clear he
      by_cases hkm : k < many
      · by_cases hk0 : k = 0
        · have HRUN : Hid (runS s n (k + 1) = (firstS s n (runS s n k).1, (runS s n k).2 ++ [((firstS s n (runS s n k).1).x.t, (firstS s n (runS s n k).1).x.v)])) := Lib.hid (by
            rw [runS, if_neg (by rw [HE.out]; simp), if_pos hk0])
          have hz : ((k : Int) == 0) = true := by rw [hk0]; rfl
          clear hk0
          go_wp2_with fail
          refine (next_first w.heap.size p w.heap.size s n wr _ HA.out HDM.out).mono ?_
          rintro e w3 ⟨rfl, ha, hc⟩
          have HA3 := Lib.hid ha
          have HC3 := Lib.hid (HC.out.trans (hc.mono (by simp)))
          have HO3 := Lib.hid (own_chg HO.out hc (by decide))
          clear ha hc c4
          go_wp2_with (first
            | (at_builtin
               refine app_row smpC_len smpC_one _ rfl (.tmp 44) (.tmp 49) 23 59 rfl i1 (.agg #[.int .i64 0, .int .i64 0]) 16 Try.underlying23 hi1 hz3 hz4 hz5 rfl (by decide) (by decide) w.heap.size _ (runS s n k).2 rfl (by exact World.ownsRow.alloc HO3.out _) (Nat.le_trans HX2.out.size (Nat.le_trans HC3.out.size (Ext.alloc w3 _).size)) (some ⟨w3.heap.size, 0, none⟩) 1 1 [(_, _)] rfl rfl (by exact Rd.new w3 #[_, _] 59) (by have := runS_len s n k; simp only [List.length_singleton]; omega) ?_
               intro v4 w4 hown4 hchg4
               have HO4 := Lib.hid hown4
               have HA4 := Lib.hid (At.mk ((HA3.out.src.ext (Ext.alloc w3 _)).chg hchg4 (by decide)) ((HA3.out.rdr.ext (Ext.alloc w3 _)).chg hchg4 (by decide)) HA3.out.le : At w.heap.size p w.heap.size s n w4 _)
               have HC4 := Lib.hid ((HC3.out.alloc _).trans (hchg4.mono (by simp)))
               clear hown4 hchg4))
          go_roundw
          case rel => exact ⟨k + 1, by omega, by go_num, by rw [HRUN.out]; exact HA4.out, by rw [HRUN.out]; exact HO4.out, HC4.out⟩
          case measure => simp [intOf]; omega
        · have HRUN : Hid (runS s n (k + 1) = (laterS s n (runS s n k).1, (runS s n k).2 ++ [((laterS s n (runS s n k).1).x.t, (laterS s n (runS s n k).1).x.v)])) := Lib.hid (by
            rw [runS, if_neg (by rw [HE.out]; simp), if_neg hk0])
          have hz : ((k : Int) == 0) = false := by simp; omega
          clear hk0
          go_wp2_with fail
          refine (next_later w.heap.size p w.heap.size s n wr _ HA.out HDM.out).mono ?_
          rintro e w3 ⟨rfl, ha, hc⟩
          have HA3 := Lib.hid ha
          have HC3 := Lib.hid (HC.out.trans (hc.mono (by simp)))
          have HO3 := Lib.hid (own_chg HO.out hc (by decide))
          clear ha hc c4
          go_wp2_with (first
            | (at_builtin
               refine app_row smpC_len smpC_one _ rfl (.tmp 44) (.tmp 49) 23 59 rfl i1 (.agg #[.int .i64 0, .int .i64 0]) 16 Try.underlying23 hi1 hz3 hz4 hz5 rfl (by decide) (by decide) w.heap.size _ (runS s n k).2 rfl (by exact World.ownsRow.alloc HO3.out _) (Nat.le_trans HX2.out.size (Nat.le_trans HC3.out.size (Ext.alloc w3 _).size)) (some ⟨w3.heap.size, 0, none⟩) 1 1 [(_, _)] rfl rfl (by exact Rd.new w3 #[_, _] 59) (by have := runS_len s n k; simp only [List.length_singleton]; omega) ?_
               intro v4 w4 hown4 hchg4
               have HO4 := Lib.hid hown4
               have HA4 := Lib.hid (At.mk ((HA3.out.src.ext (Ext.alloc w3 _)).chg hchg4 (by decide)) ((HA3.out.rdr.ext (Ext.alloc w3 _)).chg hchg4 (by decide)) HA3.out.le : At w.heap.size p w.heap.size s n w4 _)
               have HC4 := Lib.hid ((HC3.out.alloc _).trans (hchg4.mono (by simp)))
               clear hown4 hchg4))
          go_roundw
          case rel => exact ⟨k + 1, by omega, by go_num, by rw [HRUN.out]; exact HA4.out, by rw [HRUN.out]; exact HO4.out, HC4.out⟩
          case measure => simp [intOf]; omega
      · obtain rfl : k = many := by omega
        have hle := HA.out.le
        have hn64 : n ≤ 34359738368 := HDM.out.hn
        by_cases hleft : (runS s n k).1.k < n
        · have HD : Hid (decR s n k = ([], 4)) := Lib.hid (by rw [decR, if_neg (by rw [HE.out]; simp), if_pos hleft])
          have hl2 : (0 : Int) < (n : Int) - ((runS s n k).1.k : Int) := by omega
          have hl3 : decide (((runS s n k).1.k : Int) < (n : Int)) = true := by rw [decide_eq_true_eq]; omega
          go_wp2_with fail
          refine (left_any w.heap.size s n (runS s n k).1.k wr HA.out.rdr hle hn64).mono ?_
          rintro e w3 ⟨rfl, q, rfl⟩
          go_wp2_with fail
          go_ret2
          exact ⟨_, by rw [HD.out]; rfl, by rw [HD.out]; exact ⟨none, 0, 0, rfl, rfl, by omega, by simp [maxLen], Rd.nil _ _⟩, (ext_own HX2.out HC.out).trans (Ext.drewN _ _)⟩
        · have HD : Hid (decR s n k = ((runS s n k).2, 0)) := Lib.hid (by rw [decR, if_neg (by rw [HE.out]; simp), if_neg hleft])
          have hl2 : ¬ (0 : Int) < (n : Int) - ((runS s n k).1.k : Int) := by omega
          have hl3 : decide (((runS s n k).1.k : Int) < (n : Int)) = false := by rw [decide_eq_false_iff_not]; omega
          go_wp2_with fail
          refine (left_any w.heap.size s n (runS s n k).1.k wr HA.out.rdr hle hn64).mono ?_
          rintro e w3 ⟨rfl, q, rfl⟩
          go_wp2_with fail
          go_ret2
          exact ⟨_, by rw [HD.out]; rfl, by rw [HD.out]; exact (own_row HO.out).ext (Ext.drewN _ _), (ext_own HX2.out HC.out).trans (Ext.drewN _ _)⟩
    · by_cases hkm : k < many
      · have hz1 : ((runS s n k).1.x.e == 0) = false := by simpa using he
        have hz2 : ((runS s n k).1.x.e != 0) = true := by simpa using he
        have HD : Hid (decR s n many = ([], (runS s n k).1.x.e)) := Lib.hid (by
          have h1 := runS_stop s n k he (many - k)
          rw [show k + (many - k) = many by omega] at h1
          rw [decR, h1, if_pos he])
        clear he
        go_wp2_with fail
        go_quiet (fail)
        go_wp2_with fail
        go_ret2
        exact ⟨_, by rw [HD.out]; rfl, by rw [HD.out]; exact ⟨none, 0, 0, rfl, rfl, by omega, by simp [maxLen], Rd.nil _ _⟩, (ext_own HX2.out HC.out).trans (Ext.drewN _ _)⟩
      · obtain rfl : k = many := by omega
        clear hkm
        have HA9 := HA
        have hz1 : ((runS s n k).1.x.e == 0) = false := by simpa using he
        have hz2 : ((runS s n k).1.x.e != 0) = true := by simpa using he
        have HD : Hid (decR s n k = ([], (runS s n k).1.x.e)) := Lib.hid (by
          have h1 := runS_stop s n k he (k - k)
          rw [show k + (k - k) = k by omega] at h1
          rw [decR, h1, if_pos he])
        clear he
        go_wp2_with fail
        go_quiet (fail)
        go_wp2_with fail
        go_ret2
        exact ⟨_, by rw [HD.out]; rfl, by rw [HD.out]; exact ⟨none, 0, 0, rfl, rfl, by omega, by simp [maxLen], Rd.nil _ _⟩, (ext_own HX2.out HC.out).trans (Ext.drewN _ _)⟩
end Go.Proofs.Ytpdebandcmhbcaa
