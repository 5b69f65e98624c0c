/- The statement BitsWrites, walked. -/
import Derived.Test.YtehkalncofbbhaaBitB
import Derived.Test.YtehkalncofbbhaaBitY
namespace Go.Proofs.Ytehkalncofbbhaa
open Go.RowKit Bit
set_option linter.unusedVariables false

theorem cells_keep {B g : Nat} {S : List TypeId} {w w' : World} {c : Array Value} {e : TypeId} {f : Nat × Nat} (h : w.heap[g]? = some (.cells c e f)) (hc : Chg B S w w') (he : e ∉ S) : w'.heap[g]? = some (.cells c e f) := hc.heap_type h he

set_option maxHeartbeats 4000000 in
theorem bitsWrites_any (v : Value) (xs : List (Nat × Int)) (w : World) (h : Row opC w v xs) (hok : ∀ o ∈ xs, OpOk o) :
    Calls Try.prog 3 #[v] w fun e w' => e = .returned (.bool true) ∧ Ext w w' := by
  obtain ⟨A, n, c, rfl, hn, hnc, hc, hr⟩ := h
  have hw0 := Wr.new w w.heap.size (Nat.le_refl _)
  have HX0 := Lib.hid (Ext.alloc w (.cells #[.slice none 0 0, .int .i64 0] 26))
  have HW0 := Lib.hid hw0
  have HR := Lib.hid hr
  have HN := Lib.hid hn
  have HOK := Lib.hid hok
  clear hw0 hr hn hok
  go_enter Try.func3, Try.ntmps3
  go_wp2_with fail
  generalize w.alloc (.cells #[.slice none 0 0, .int .i64 0] 26) = v0 at *
  go_loopw [4, 5] (fun o i wr => ∃ (k : Nat) (b : List Bool), k ≤ n ∧ k ≤ 60 ∧ b.length ≤ 64 * k ∧ i = .int .i64 (k : Int) ∧ OwnL w.heap.size wr o b ∧ Wr w.heap.size wr w.heap.size b ∧ Chg w.heap.size [26, 5, 4] w wr) (fun _ i _ => n - (intOf i).toNat)
  case atStart => exact ⟨0, [], by omega, by omega, by simp, rfl, OwnL.nil _ _, HW0.out, Chg.of_ext HX0.out⟩
  case round =>
    obtain ⟨k, b, hk, hk60, hbl, rfl, hown, hwr, hchg⟩ := hrel
    have HO := Lib.hid hown
    have HW := Lib.hid hwr
    have HC := Lib.hid hchg
    clear hown hwr hchg
    by_cases h1 : k < n
    · by_cases h2 : k < 60
      · obtain ⟨ad, rfl⟩ : ∃ ad, A = some ad := row_some HR.out opC_len (by decide) (by have := HN.out; omega)
        obtain ⟨u, m, hx⟩ : ∃ u m, xs[k]? = some (u, m) := ⟨_, _, List.getElem?_eq_getElem (by have := HN.out; omega)⟩
        have hrw := HR.out.ext (HC.out.to_ext (Nat.le_refl _))
        have c0 : wr.cell? (ad.add (k * 2)) = some (.int .u64 (u : Int)) := row_cell opC_len hrw k 0 hx rfl
        have c1 : wr.cell? ⟨(ad.add (k * 2)).block, (ad.add (k * 2)).off + 1, none⟩ = some (.int .i64 m) := row_field opC_len hrw k 1 (by decide) hx rfl
        obtain ⟨hu, hm1, hm2⟩ := HOK.out (u, m) (List.mem_of_getElem? hx)
        clear hrw hx
        by_cases hf : OpFit (u, m)
        · obtain ⟨m, rfl⟩ : ∃ j : Nat, m = (j : Int) := ⟨m.toNat, by have := hf.1; omega⟩
          have hm64 : m ≤ 64 := by have := hf.2.1; omega
          have hum : u < 2 ^ m := by have := hf.2.2; rwa [Int.toNat_natCast] at this
          have HFF := Lib.hid hf
          have HUM := Lib.hid hum
          clear hf hum
          have hfb : fitsB u (m : Int) = true := decide_eq_true HFF.out
          have HFB := Lib.hid hfb
          clear hfb
          go_wp2_with fail
          have hoc := heap_alloc_last wr (.cells #[.int .u64 (u : Int), .int .i64 (m)] 30)
          have HW1 := Lib.hid (HW.out.ext (Ext.alloc wr (.cells #[.int .u64 (u : Int), .int .i64 (m)] 30)))
          have HO1 := Lib.hid (HO.out.ext (Ext.alloc wr (.cells #[.int .u64 (u : Int), .int .i64 (m)] 30)))
          have HC1 := Lib.hid (HC.out.alloc (.cells #[.int .u64 (u : Int), .int .i64 (m)] 30))
          generalize wr.alloc (.cells #[.int .u64 (u : Int), .int .i64 (m)] 30) = v1 at *
          generalize wr.heap.size = go at *
          clear c0 c1
          refine (put_ok w.heap.size w.heap.size b u m v1 HW1.out hm64 HUM.out (by omega) HC1.out.size).mono ?_
          rintro e v2 ⟨rfl, hw2, hc2⟩
          have hoc2 := cells_keep hoc hc2 (by decide)
          have e0 : v2.cell? ⟨go, 0, none⟩ = some (.int .u64 (u : Int)) := heap_cell hoc2 0
          have e1 : v2.cell? ⟨go, 1, none⟩ = some (.int .i64 (m : Int)) := heap_cell hoc2 1
          have HO2 := Lib.hid (HO1.out.chg hc2 (by decide))
          have HC2 := Lib.hid (HC1.out.trans (hc2.mono (by simp)))
          have HW2 := Lib.hid hw2
          clear hw2 hc2 hoc
          go_wp2_with fail
          refine (rFits_any u m v2 hu hm1 hm2).mono ?_
          rintro e v3 ⟨rfl, hx3⟩
          rw [HFB.out]
          have hoc3 := cells_keep hoc2 (Chg.of_ext (B := 0) (S := []) hx3) (by simp)
          have g0 : v3.cell? ⟨go, 0, none⟩ = some (.int .u64 (u : Int)) := heap_cell hoc3 0
          have g1 : v3.cell? ⟨go, 1, none⟩ = some (.int .i64 (m : Int)) := heap_cell hoc3 1
          have HO3 := Lib.hid (HO2.out.ext hx3)
          have HC3 := Lib.hid (HC2.out.then hx3)
          have HW3 := Lib.hid (HW2.out.ext hx3)
          clear hx3 e0 e1 hoc2 hoc3
          go_wp2_with fail
          refine (rBits_any u m v3 hu hm64).mono ?_
          rintro e v4 ⟨vb, rfl, hob, hx4⟩
          obtain ⟨A5, n5, c5, rfl, hn5, _, _, hr5⟩ := hob.boo
          have HN5 := Lib.hid hn5
          have HR5 := Lib.hid hr5
          have HO4 := Lib.hid (HO3.out.ext hx4)
          have HC4 := Lib.hid (HC3.out.then hx4)
          have HW4 := Lib.hid (HW3.out.ext hx4)
          clear hx4 hob hn5 hr5 g0 g1
          have hz : (b ++ bitsOf u m).length = b.length + m := by rw [List.length_append, length_bitsOf]
          have HZ := Lib.hid hz
          clear hz
          go_wp2_with (first
            | (at_builtin
               refine app_bools _ rfl (.tmp 48) (.tmp 53) rfl w.heap.size _ b rfl (by exact HO4.out) HC4.out.size A5 n5 c5 (bitsOf u m) rfl HN5.out HR5.out (by rw [length_bitsOf]; omega) ?_
               intro v6 w6 hown6 hchg6
               have HW6 := Lib.hid (HW4.out.chg hchg6 (by decide) (by decide))
               have HC6 := Lib.hid (HC4.out.trans (hchg6.mono (by simp)))
               clear hchg6
               obtain ⟨A6, c6, rfl, h61, h62, h63⟩ := own_slice hown6
               have HR6 := Lib.hid h63
               clear h63
               rw [HZ.out] at hown6 h61 ⊢
               have HO6 := Lib.hid hown6
               clear hown6))
          generalize hb2 : b ++ bitsOf u m = b2 at *
          generalize hzz : b.length + m = z at *
          have hzk : z ≤ 64 * (k + 1) := by omega
          clear hb2 hzz
          refine (len_any w.heap.size w.heap.size b2 w6 HW6.out).mono ?_
          rintro e _ ⟨rfl, rfl⟩
          rw [HZ.out]
          go_wp2_with fail
          refine (wbytes_any w.heap.size w.heap.size b2 w6 HW6.out (by rw [HZ.out]; omega)).mono ?_
          rintro e _ ⟨s1, rfl, hs1, rfl⟩
          have HS1 := Lib.hid hs1
          clear hs1
          go_wp2_with fail
          refine (rBytes_any _ b2 w6 ⟨_, _, _, rfl, HZ.out, h61, h62, HR6.out⟩ (by rw [HZ.out]; omega)).mono ?_
          rintro e w7 ⟨s2, rfl, hs2, hx7⟩
          obtain rfl : s2 = s1 := bytes_ext (hs2.uniq HS1.out)
          have HO7 := Lib.hid (OwnL.ext HO6.out hx7)
          have HC7 := Lib.hid (HC6.out.then hx7)
          have HW7 := Lib.hid (HW6.out.ext hx7)
          clear hs2 hx7
          go_wp2_with fail
          go_roundw
          case rel => exact ⟨k + 1, b2, by omega, by omega, by rw [HZ.out]; exact hzk, by go_num, HO7.out, HW7.out, HC7.out⟩
          case measure => simp [intOf]; omega
        · have hfb : fitsB u m = false := decide_eq_false hf
          have HFB := Lib.hid hfb
          have HNF := Lib.hid hf
          clear hfb hf
          obtain ⟨A6, c6, rfl, h61, h62, h63⟩ := own_slice HO.out
          have HR60 := Lib.hid h63
          clear h63
          go_wp2_with fail
          have hx1 := Ext.alloc wr (.cells #[.int .u64 (u : Int), .int .i64 m] 30)
          have HR61 := Lib.hid (HR60.out.ext hx1)
          clear hx1
          have hoc := heap_alloc_last wr (.cells #[.int .u64 (u : Int), .int .i64 (m)] 30)
          have HW1 := Lib.hid (HW.out.ext (Ext.alloc wr (.cells #[.int .u64 (u : Int), .int .i64 (m)] 30)))
          have HO1 := Lib.hid (HO.out.ext (Ext.alloc wr (.cells #[.int .u64 (u : Int), .int .i64 (m)] 30)))
          have HC1 := Lib.hid (HC.out.alloc (.cells #[.int .u64 (u : Int), .int .i64 (m)] 30))
          generalize wr.alloc (.cells #[.int .u64 (u : Int), .int .i64 (m)] 30) = v1 at *
          generalize wr.heap.size = go at *
          clear c0 c1
          refine (put_bad ⟨w.heap.size, 0, none⟩ u m v1 hu hm1 hm2 HNF.out).mono ?_
          rintro e _ ⟨rfl, rfl⟩
          have e0 : v1.cell? ⟨go, 0, none⟩ = some (.int .u64 (u : Int)) := heap_cell hoc 0
          have e1 : v1.cell? ⟨go, 1, none⟩ = some (.int .i64 m) := heap_cell hoc 1
          clear hoc
          go_wp2_with fail
          refine (rFits_any u m v1 hu hm1 hm2).mono ?_
          rintro e w6 ⟨rfl, hx3⟩
          rw [HFB.out]
          have HO6 := Lib.hid (HO1.out.ext hx3)
          have HC6 := Lib.hid (HC1.out.then hx3)
          have HW6 := Lib.hid (HW1.out.ext hx3)
          have HR6 := Lib.hid (HR61.out.ext hx3)
          clear hx3 e0 e1
          generalize hz : b.length = z at *
          have HZ := Lib.hid hz
          clear hz
          have hzk : z ≤ 64 * (k + 1) := by omega
          generalize hb2 : b = b2 at *
          clear hb2
          go_wp2_with fail
          refine (len_any w.heap.size w.heap.size b2 w6 HW6.out).mono ?_
          rintro e _ ⟨rfl, rfl⟩
          rw [HZ.out]
          go_wp2_with fail
          refine (wbytes_any w.heap.size w.heap.size b2 w6 HW6.out (by rw [HZ.out]; omega)).mono ?_
          rintro e _ ⟨s1, rfl, hs1, rfl⟩
          have HS1 := Lib.hid hs1
          clear hs1
          go_wp2_with fail
          refine (rBytes_any _ b2 w6 ⟨_, _, _, rfl, HZ.out, h61, h62, HR6.out⟩ (by rw [HZ.out]; omega)).mono ?_
          rintro e w7 ⟨s2, rfl, hs2, hx7⟩
          obtain rfl : s2 = s1 := bytes_ext (hs2.uniq HS1.out)
          have HO7 := Lib.hid (OwnL.ext HO6.out hx7)
          have HC7 := Lib.hid (HC6.out.then hx7)
          have HW7 := Lib.hid (HW6.out.ext hx7)
          clear hs2 hx7
          go_wp2_with fail
          go_roundw
          case rel => exact ⟨k + 1, b2, by omega, by omega, by rw [HZ.out]; exact hzk, by go_num, HO7.out, HW7.out, HC7.out⟩
          case measure => simp [intOf]; omega
      · have h2' : 60 ≤ k := by omega
        go_wp2_with fail
        refine (known_any wr).mono ?_
        rintro e w2 ⟨rfl, hx⟩
        go_wp2_with fail
        go_ret
        exact ⟨rfl, (HC.out.to_ext (Nat.le_refl _)).trans hx⟩
    · go_wp2_with fail
      refine (known_any wr).mono ?_
      rintro e w2 ⟨rfl, hx⟩
      go_wp2_with fail
      go_ret
      exact ⟨rfl, (HC.out.to_ext (Nat.le_refl _)).trans hx⟩
end Go.Proofs.Ytehkalncofbbhaa
