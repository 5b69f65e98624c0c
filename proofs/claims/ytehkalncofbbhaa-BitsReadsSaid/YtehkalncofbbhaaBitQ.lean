/- The statement BitsReads, walked. -/
import Derived.Test.YtehkalncofbbhaaBitB
import Derived.Test.YtehkalncofbbhaaBitT
import Derived.Deep.CutRange
namespace Go.Proofs.Ytehkalncofbbhaa
open Go.RowKit Bit
set_option linter.unusedVariables false

theorem cut_same {P : Program} {A : Option Addr} (t e : TypeId) (i : TypeInfo) (size : Nat) (ht : P.underlying t = some (.slice e)) (hi : P.info? e = some i) (hsz : i.size = size)
    {n c : Nat} (hc : n ≤ c) (k : Nat) (ki : Int) (hki : ki = (k : Int)) (hk : k ≤ n) :
    ∀ w', (Instr.slice t (.slice A n c) none (some (.int .i64 ki)) none).run P w' = .ok (.slice A k c) w' := by
  subst hki
  have he : P.elem t = e := by simp [Program.elem, ht]
  have hrun : ∀ w', (Instr.slice t (.slice A n c) none (some (.int .i64 (k : Int))) none).run P w' = .ok (.slice (if c = 0 then A else A.map (·.add (0 * size))) k c) w' := fun w' => by
    rw [run_slice_h w' t A n c (by rw [he]; exact ht) .i64 (k : Int) (by omega) (by omega), he]
    simp [sizeOf, typeInfo, hi, sliced, hsz]
  have hA : (if c = 0 then A else A.map (·.add (0 * size))) = A := by
    split
    · rfl
    · cases A <;> simp [Addr.add]
  exact fun w' => by rw [hrun w', hA]

theorem bits_mid (s : ByteArray) (n a j : Nat) (h : a + j ≤ n) : ((bitsAt s 0 n).drop a).take (a + j - a) = bitsAt s a j := by
  apply List.ext_getElem
  · simp [bitsAt_length]; omega
  · intro i h1 h2
    simp [bitsAt]

theorem rOf_stable (s : ByteArray) (m : Nat) (w : World) (hs : s.size ≤ 4194304) (hm : m ≤ 8 * s.size) :
    Calls Try.prog 19 #[.string s, .int .i64 m] w fun e w' => ∃ v, e = .returned v ∧ (∀ B S w'', 4 ∉ S → Chg B S w' w'' → Boo w'' v (bitsAt s 0 m)) ∧ Ext w w' := by
  obtain ⟨i0, hi0, hz0, hz1, hz2⟩ := info_parts Try.boolInfo
  go_enter Try.func19, Try.ntmps19
  go_wp2
  go_loopw [5, 6] (fun o i wr => ∃ k : Nat, k ≤ s.size ∧ i = .int .i64 k ∧ OwnL w.heap.size wr o (bitsAt s 0 (8 * k)) ∧ Ext w wr) (fun _ i _ => s.size - (intOf i).toNat)
  case atStart => exact ⟨0, by omega, rfl, OwnL.nil _ _, Ext.refl _⟩
  case round =>
    obtain ⟨k, hk, rfl, hown, hext⟩ := hrel
    have HO := Lib.hid hown
    have HX := Lib.hid hext
    clear hown hext
    by_cases h1 : k < s.size
    · have hb := s[k].toNat_lt
      have hst : bitsAt s 0 (8 * k) ++ bitsOf s[k].toNat 8 = bitsAt s 0 (8 * (k + 1)) := by
        rw [of_step s k h1, ← bitsAt_add]
        rfl
      have HST := Lib.hid hst
      clear hst
      go_wp2_with (first
        | (go_at_call 13; refine (rBits_any s[k].toNat 8 wr (by omega) (by decide)).mono ?_; rintro e w1 ⟨v1, rfl, hown1, hx1⟩; obtain ⟨A1, n1, c1, rfl, hn1, hnc1, hcm1, hr1⟩ := hown1.boo; clear hown1; have HN1 := Lib.hid hn1; have HR1 := Lib.hid hr1; have HX1 := Lib.hid hx1; clear hn1 hr1 hx1)
        | (at_builtin
           refine app_bools _ rfl (.tmp 13) (.tmp 18) rfl w.heap.size _ (bitsAt s 0 (8 * k)) rfl (by exact HO.out.ext HX1.out) (Nat.le_trans HX.out.size HX1.out.size) A1 n1 c1 (bitsOf s[k].toNat 8) rfl HN1.out HR1.out (by rw [bitsAt_length, length_bitsOf]; omega) ?_
           intro v2 w2 hown2 hchg2
           have hext2 := ext_own (HX.out.trans HX1.out) hchg2
           clear hchg2))
      go_roundw
      case rel => exact ⟨k + 1, by omega, by go_num, by rw [← HST.out]; exact hown2, hext2⟩
      case measure => simp [intOf]; omega
    · obtain rfl : k = s.size := by omega
      obtain ⟨A, n, c, rfl, hn, hnc, hcm, hr⟩ := HO.out.boo
      rw [bitsAt_length] at hn
      subst hn
      have hsl := cut_same (P := Try.prog) (A := A) 27 4 i0 1 Try.underlying27 hi0 hz1 hnc m (m : Int) rfl hm
      clear hr
      go_wp2
      go_ret
      refine ⟨_, rfl, fun B S w'' hS hc => ⟨A, m, c, rfl, bitsAt_length _ _ _, by omega, hcm, ?_⟩, HX.out⟩
      obtain ⟨A', n', c', hv, _, _, _, hr'⟩ := (HO.out.chg hc hS).boo
      injection hv with hA _ _
      subst hA
      have := hr'.take m
      rw [← List.map_take, bits_take _ _ _ hm] at this
      exact this


set_option maxRecDepth 100000 in
set_option maxHeartbeats 60000000 in
theorem bitsReads_any (s : ByteArray) (many : Int) (v : Value) (xs : List (Nat × Int)) (w : World) (h1 : s.size ≤ 9223372036854775807) (m1 : -9223372036854775808 ≤ many) (m2 : many ≤ 9223372036854775807) (h : Row opC w v xs) (hok : ∀ o ∈ xs, OpOk o) :
    Calls Try.prog 4 #[.string s, .int .i64 many, v] w fun e w' => e = .returned (.bool true) ∧ Ext w w' := by
  obtain ⟨i0, hi0, hz0, hz1, hz2⟩ := info_parts Try.boolInfo
  obtain ⟨A, n, c, rfl, hn, hnc, hc, hr⟩ := h
  have HR := Lib.hid hr
  have HN := Lib.hid hn
  have HOK := Lib.hid hok
  clear hr hn hok
  by_cases hs : s.size ≤ 300
  · by_cases hlo : 0 ≤ many
    · by_cases hhi : many ≤ 8 * (s.size : Int)
      · obtain ⟨N, rfl⟩ : ∃ N : Nat, many = N := ⟨many.toNat, by omega⟩
        have hN : N ≤ 8 * s.size := by omega
        go_enter Try.func4, Try.ntmps4
        go_wp2_with fail
        refine (read_ok s N w hN (by omega)).mono ?_
        rintro e v1 ⟨rfl, hr1, hx1⟩
        have HR1 := Lib.hid hr1
        have HX1 := Lib.hid hx1
        clear hr1 hx1
        go_wp2_with fail
        refine (rOf_stable s N v1 (by omega) hN).mono ?_
        rintro e v2 ⟨lv, rfl, hst, hx2⟩
        obtain ⟨A3, n3, c3, rfl, hn3, hnc3, hcm3, _⟩ := hst 0 [] v2 (by simp) (Chg.refl _ _ _)
        rw [bitsAt_length] at hn3
        subst hn3
        have HST := Lib.hid hst
        have HX2 := Lib.hid (HX1.out.trans hx2)
        have HR2 := Lib.hid (HR1.out.ext hx2)
        clear hst hx2
        go_wp2_with fail
        go_loopw [10, 11] (fun at' i wr => ∃ (k a : Nat), k ≤ n ∧ k ≤ 60 ∧ i = .int .i64 (k : Int) ∧ at' = .int .i64 (a : Int) ∧ a ≤ N ∧ Rdr wr w.heap.size s N a ∧ Chg w.heap.size [55] v2 wr) (fun _ i _ => n - (intOf i).toNat)
        case atStart => exact ⟨0, 0, by omega, by omega, rfl, rfl, by omega, HR2.out, Chg.refl _ _ _⟩
        case round =>
          obtain ⟨k, a, hk, hk60, rfl, rfl, haN, hrd, hchg⟩ := hrel
          have HR3 := Lib.hid hrd
          have HC3 := Lib.hid hchg
          clear hrd hchg
          have haI : (a : Int) ≤ (N : Int) := by omega
          by_cases hkn : k < n
          · by_cases hk6 : k < 60
            · obtain ⟨ad, rfl⟩ : ∃ ad, A = some ad := row_some HR.out opC_len (by decide) (by have := HN.out; omega)
              obtain ⟨u, m, hx⟩ : ∃ u m, xs[k]? = some (u, m) := ⟨_, _, List.getElem?_eq_getElem (by have := HN.out; omega)⟩
              have hrw := HR.out.ext (((Chg.of_ext HX2.out).trans HC3.out).to_ext (Nat.le_refl _))
              have c0 : wr.cell? (ad.add (k * 2)) = some (.int .u64 (u : Int)) := row_cell opC_len hrw k 0 hx rfl
              have c1 : wr.cell? ⟨(ad.add (k * 2)).block, (ad.add (k * 2)).off + 1, none⟩ = some (.int .i64 m) := row_field opC_len hrw k 1 (by decide) hx rfl
              obtain ⟨hu, hm1, hm2⟩ := HOK.out (u, m) (List.mem_of_getElem? hx)
              clear hrw hx
              go_upto_if 74 with fail
              go_cut [10] from 54 to 144 (fun s10 wx => ∃ a' : Nat, a' ≤ N ∧ s10 = .int .i64 (a' : Int) ∧ Rdr wx w.heap.size s N a' ∧ Chg w.heap.size [55] v2 wx)
              case first =>
                by_cases hu0 : u = 0
                · have hub : ((u : Int) == 0) = true := by rw [beq_iff_eq]; omega
                  clear hu0
                  by_cases hm0 : 0 ≤ m
                  · by_cases hmN : m ≤ (N : Int)
                    · obtain ⟨j, rfl⟩ : ∃ j : Nat, m = (j : Int) := ⟨m.toNat, by omega⟩
                      go_wp2_with fail
                      refine (seek_ok w.heap.size w.heap.size s N a j wr HR3.out (by omega) (by omega) (Nat.le_refl _)).mono ?_
                      rintro e v4 ⟨rfl, hr4, hc4⟩
                      have HR4 := Lib.hid hr4
                      have HC4 := Lib.hid (HC3.out.trans hc4)
                      clear hr4 hc4 c0 c1
                      go_wp2_with fail
                      go_meet
                      exact ⟨j, by omega, by first | rfl | go_num | (push_cast; rfl), HR4.out, HC4.out⟩
                    · have hmN2 : (N : Int) < m := by omega
                      go_wp2_with fail
                      refine (seek_bad w.heap.size s N a m wr HR3.out (.inr hmN2) hm1 hm2).mono ?_
                      rintro e _ ⟨rfl, rfl⟩
                      have HR4 := HR3
                      have HC4 := HC3
                      clear c0 c1
                      go_wp2_with fail
                      go_meet
                      exact ⟨a, by omega, by first | rfl | go_num | (push_cast; rfl), HR4.out, HC4.out⟩
                  · have hm02 : m < 0 := by omega
                    go_wp2_with fail
                    refine (seek_bad w.heap.size s N a m wr HR3.out (.inl hm02) hm1 hm2).mono ?_
                    rintro e _ ⟨rfl, rfl⟩
                    have HR4 := HR3
                    have HC4 := HC3
                    clear c0 c1
                    go_wp2_with fail
                    go_meet
                    exact ⟨a, by omega, by first | rfl | go_num | (push_cast; rfl), HR4.out, HC4.out⟩
                · have hub : ((u : Int) == 0) = false := by rw [beq_eq_false_iff_ne]; omega
                  clear hu0
                  by_cases hm0 : 0 ≤ m
                  · by_cases hm64 : m ≤ 64
                    · obtain ⟨j, rfl⟩ : ∃ j : Nat, m = (j : Int) := ⟨m.toNat, by omega⟩
                      by_cases hfit : a + j ≤ N
                      · have hfitI : (j : Int) ≤ (N : Int) - (a : Int) := by omega
                        go_wp2_with fail
                        refine (get_ok w.heap.size w.heap.size s N a j wr HR3.out hN (by omega) (by omega) hfit (Nat.le_refl _)).mono ?_
                        rintro e v4 ⟨rfl, hr4, hc4⟩
                        have HR4 := Lib.hid hr4
                        have HC4 := Lib.hid (HC3.out.trans hc4)
                        clear hr4 hc4 c0 c1
                        obtain ⟨A5, n5, c5, hv5, _, _, _, hrd5⟩ := HST.out _ _ v4 (by decide) HC4.out
                        obtain ⟨rfl, rfl, rfl⟩ : A3 = A5 ∧ N = n5 ∧ c3 = c5 := by injection hv5 with e1 e2 e3; exact ⟨e1, e2, e3⟩
                        clear hv5
                        have hB : Rd v4 (A3.map fun x => x.add a) ((bitsAt s a j).map .bool) := by
                          by_cases hj : j = 0
                          · subst hj
                            exact Rd.nil _ _
                          · obtain ⟨ad, rfl, _⟩ := hrd5.some_ (by rw [List.length_map, bitsAt_length]; omega)
                            have := (hrd5.drop_at (n := a) (by rw [List.length_map, bitsAt_length]; omega)).take j
                            rw [← List.map_drop, ← List.map_take] at this
                            have e := bits_mid s _ a j hfit
                            rw [show a + j - a = j by omega] at e
                            rw [e] at this
                            exact this
                        have HA4 := Lib.hid hB
                        clear hB hrd5
                        have hlj := bitsAt_length s a j
                        generalize bitsAt s a j = q at *
                        have HLJ := Lib.hid hlj
                        clear hlj
                        have hq0 : j = 0 → ∀ A', Rd v4 A' (q.map .bool) := by
                          intro hj A'
                          have : q = [] := List.eq_nil_of_length_eq_zero (by rw [HLJ.out, hj])
                          subst this
                          exact Rd.nil _ _
                        have HQ0 := Lib.hid hq0
                        clear hq0
                        rcases Nat.lt_or_ge a c3 with hac | hac
                        · have hca1 : ¬ c3 - a = 0 := by omega
                          have hca2 : ¬ c3 = a := by omega
                          have hca3 : ¬ c3 ≤ a := by omega
                          go_wp2_with fail
                          refine (rNumber_any _ q v4 ⟨_, _, _, rfl, by rw [HLJ.out], by omega, by omega, HA4.out⟩ (by rw [HLJ.out]; omega)).mono ?_
                          rintro e _ ⟨rfl, rfl⟩
                          generalize num q = z
                          go_wp2_with fail
                          go_meet
                          exact ⟨a + j, by omega, by first | rfl | go_num | (push_cast; rfl), HR4.out, HC4.out⟩
                        · obtain rfl : c3 = a := by omega
                          go_wp2_with fail
                          refine (rNumber_any _ q v4 ⟨_, _, _, rfl, by rw [HLJ.out], by omega, by omega, HQ0.out (by omega) _⟩ (by rw [HLJ.out]; omega)).mono ?_
                          rintro e _ ⟨rfl, rfl⟩
                          generalize num q = z
                          go_wp2_with fail
                          go_meet
                          exact ⟨c3 + j, by omega, by first | rfl | go_num | (push_cast; rfl), HR4.out, HC4.out⟩
                      · have hfitI : (N : Int) - (a : Int) < (j : Int) := by omega
                        go_wp2_with fail
                        refine (get_short w.heap.size s N a j wr HR3.out haN (by omega) (by omega) (by omega)).mono ?_
                        rintro e v4 ⟨rfl, hx4⟩
                        replace hx4 := ext_drew hx4
                        have HR4 := Lib.hid (HR3.out.ext hx4)
                        have HC4 := Lib.hid (HC3.out.then hx4)
                        clear hx4 c0 c1
                        go_wp2_with fail
                        go_meet
                        exact ⟨a, by omega, by first | rfl | go_num | (push_cast; rfl), HR4.out, HC4.out⟩
                    · have hm642 : 64 < m := by omega
                      have c3 : wr.cell? ⟨w.heap.size, 3, none⟩ = some (.bool true) := heap_cell HR3.out 3
                      go_wp2_with fail
                      refine (get_bad w.heap.size m wr c3 (.inr hm642)).mono ?_
                      rintro e _ ⟨rfl, rfl⟩
                      have HR4 := HR3
                      have HC4 := HC3
                      clear c0 c1 c3
                      go_wp2_with fail
                      go_meet
                      exact ⟨a, by omega, by first | rfl | go_num | (push_cast; rfl), HR4.out, HC4.out⟩
                  · have hm02 : m < 0 := by omega
                    have c3 : wr.cell? ⟨w.heap.size, 3, none⟩ = some (.bool true) := heap_cell HR3.out 3
                    go_wp2_with fail
                    refine (get_bad w.heap.size m wr c3 (.inl hm02)).mono ?_
                    rintro e _ ⟨rfl, rfl⟩
                    have HR4 := HR3
                    have HC4 := HC3
                    clear c0 c1 c3
                    go_wp2_with fail
                    go_meet
                    exact ⟨a, by omega, by first | rfl | go_num | (push_cast; rfl), HR4.out, HC4.out⟩
              case rest =>
                obtain ⟨a', ha', rfl, hr4, hc4⟩ := hcut
                have HR4 := Lib.hid hr4
                have HC4 := Lib.hid hc4
                clear hr4 hc4 c0 c1
                go_wp2_with fail
                refine (left_any w.heap.size s N a' wc HR4.out (by omega) (by omega)).mono ?_
                rintro e v9 ⟨rfl, hx9⟩
                replace hx9 := ext_drew hx9
                have HR9 := Lib.hid (HR4.out.ext hx9)
                have HC9 := Lib.hid (HC4.out.then hx9)
                clear hx9
                go_wp2_with fail
                go_roundw
                case rel => exact ⟨k + 1, a', by omega, by omega, by go_num, rfl, by omega, HR9.out, HC9.out⟩
                case measure => simp [intOf]; omega
            · have hk62 : 60 ≤ k := by omega
              go_wp2_with fail
              refine (known_any _).mono ?_
              rintro e w2 ⟨rfl, hx⟩
              go_wp2_with fail
              go_ret
              exact ⟨rfl, (((Chg.of_ext HX2.out).trans HC3.out).to_ext (Nat.le_refl _)).trans hx⟩
          · go_wp2_with fail
            refine (known_any _).mono ?_
            rintro e w2 ⟨rfl, hx⟩
            go_wp2_with fail
            go_ret
            exact ⟨rfl, (((Chg.of_ext HX2.out).trans HC3.out).to_ext (Nat.le_refl _)).trans hx⟩
      · have hhi2 : 8 * (s.size : Int) < many := by omega
        go_enter Try.func4, Try.ntmps4
        go_wp2_with fail
        refine (read_bad s many w m1 m2 (.inr hhi2) (by omega)).mono ?_
        rintro e _ ⟨rfl, rfl⟩
        go_wp2_with fail
        refine (known_any _).mono ?_
        rintro e w2 ⟨rfl, hx⟩
        go_wp2_with fail
        go_ret
        exact ⟨rfl, hx⟩
    · have hlo2 : many < 0 := by omega
      go_enter Try.func4, Try.ntmps4
      go_wp2_with fail
      refine (read_bad s many w m1 m2 (.inl hlo2) (by omega)).mono ?_
      rintro e _ ⟨rfl, rfl⟩
      go_wp2_with fail
      refine (known_any _).mono ?_
      rintro e w2 ⟨rfl, hx⟩
      go_wp2_with fail
      go_ret
      exact ⟨rfl, hx⟩
  · have hs2 : 300 < s.size := by omega
    go_enter Try.func4, Try.ntmps4
    go_wp2_with fail
    refine (known_any _).mono ?_
    rintro e w2 ⟨rfl, hx⟩
    go_wp2_with fail
    go_ret
    exact ⟨rfl, hx⟩
end Go.Proofs.Ytehkalncofbbhaa
