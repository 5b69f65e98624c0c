/- The statement BitsBack, walked. -/
import Derived.Test.YtehkalncofbbhaaRow
import Derived.Test.YtehkalncofbbhaaBitX
namespace Go.Proofs.Ytehkalncofbbhaa
open Go.RowKit Bit
set_option linter.unusedVariables false

def opC (o : Nat × Int) : List Value := [.int .u64 (o.1 : Int), .int .i64 o.2]
theorem opC_len (o : Nat × Int) : (opC o).length = 2 := rfl
def OpOk (o : Nat × Int) : Prop := o.1 < 18446744073709551616 ∧ -9223372036854775808 ≤ o.2 ∧ o.2 ≤ 9223372036854775807
def OpFit (o : Nat × Int) : Prop := 0 ≤ o.2 ∧ o.2 ≤ 64 ∧ o.1 < 2 ^ o.2.toNat
instance (o : Nat × Int) : Decidable (OpFit o) := by unfold OpFit; infer_instance
def bitsAll (ins : List (Nat × Int)) : List Bool := ins.flatMap fun o => bitsOf o.1 o.2.toNat
theorem bitsAll_length_le : ∀ (ins : List (Nat × Int)), (∀ o ∈ ins, OpFit o) → (bitsAll ins).length ≤ 64 * ins.length
  | [], _ => by simp [bitsAll]
  | o :: ins, h => by
    have h1 := bitsAll_length_le ins (fun x hx => h x (by simp [hx]))
    have h2 := h o (by simp)
    unfold bitsAll at *
    rw [List.flatMap_cons, List.length_append, length_bitsOf, List.length_cons]
    unfold OpFit at h2
    omega

theorem Try.opInfo : (Try.prog.info? 30).map (fun i => (i.zero, i.size, i.bytes)) = some (some (.agg #[.int .u64 0, .int .i64 0]), 2, 16) := by kernel_rfl

theorem opC_one (o : Nat × Int) : ∀ u ∈ opC o, u.oneCell' = true := by
  intro u hu
  simp [opC] at hu
  rcases hu with rfl | rfl <;> rfl
theorem bitsAll_snoc (ins : List (Nat × Int)) (u m : Nat) : bitsAll (ins ++ [(u, (m : Int))]) = bitsAll ins ++ bitsOf u m := by simp [bitsAll]
theorem fit_snoc {ins : List (Nat × Int)} {o : Nat × Int} (h : ∀ o ∈ ins, OpFit o) (ho : OpFit o) : ∀ x ∈ ins ++ [o], OpFit x := by
  intro x hx
  rcases List.mem_append.1 hx with h1 | h1
  · exact h x h1
  · rw [List.mem_singleton.1 h1]; exact ho

theorem back_split {ins : List (Nat × Int)} {j u m : Nat} (h : ins[j]? = some (u, (m : Int))) : bitsAll (ins.take (j + 1)) = bitsAll (ins.take j) ++ bitsOf u m ∧ ∃ t, bitsAll ins = bitsAll (ins.take j) ++ (bitsOf u m ++ t) := by
  obtain ⟨hj, hx⟩ := List.getElem?_eq_some_iff.1 h
  have h1 : ins.take (j + 1) = ins.take j ++ [(u, (m : Int))] := by rw [← hx]; exact List.take_succ_eq_append_getElem hj
  have h2 : bitsAll (ins.take (j + 1)) = bitsAll (ins.take j) ++ bitsOf u m := by rw [h1, bitsAll_snoc]
  refine ⟨h2, bitsAll (ins.drop (j + 1)), ?_⟩
  rw [← List.append_assoc, ← h2]
  unfold bitsAll
  rw [← List.flatMap_append, List.take_append_drop]
theorem back_bits {ins : List (Nat × Int)} {s : ByteArray} {j u m L : Nat} (h : ins[j]? = some (u, (m : Int))) (hs : Packed (bitsAll ins) s.toList) (hL : (bitsAll ins).length = L) (hu : u < 2 ^ m) :
    (bitsAll (ins.take j)).length + m ≤ L ∧ num (bitsAt s (bitsAll (ins.take j)).length m) = u ∧ (bitsAll (ins.take (j + 1))).length = (bitsAll (ins.take j)).length + m := by
  obtain ⟨h1, t, h2⟩ := back_split h
  have h3 : (bitsAll (ins.take j)).length + m ≤ (bitsAll ins).length := by rw [h2, List.length_append, List.length_append, length_bitsOf]; omega
  refine ⟨by rw [← hL]; exact h3, ?_, by rw [h1, List.length_append, length_bitsOf]⟩
  rw [bitsAt_packed hs _ _ h3, h2, List.drop_left, List.take_append_of_le_length (by rw [length_bitsOf]; exact Nat.le_refl _), List.take_of_length_le (by rw [length_bitsOf]; exact Nat.le_refl _), num_fits hu]

set_option maxHeartbeats 4000000 in
theorem bitsBack_any (v : Value) (xs : List (Nat × Int)) (w : World) (h : Row opC w v xs) (hok : ∀ o ∈ xs, OpOk o) :
    Calls Try.prog 5 #[v] w fun e w' => e = .returned (.bool true) ∧ Ext w w' := by
  obtain ⟨A, n, c, rfl, hn, hnc, hc, hr⟩ := h
  obtain ⟨i0, hi0, hz0, hz1, hz2⟩ := info_parts Try.opInfo
  have hw0 := Wr.new w w.heap.size (Nat.le_refl _)
  have HX0 := Lib.hid (Ext.alloc w (.cells #[.slice none 0 0, .int .i64 0] 26))
  have HW0 := Lib.hid hw0
  have HR := Lib.hid hr
  have HN := Lib.hid hn
  have HOK := Lib.hid hok
  clear hw0 hr hn hok
  go_enter Try.func5, Try.ntmps5
  go_wp2_with fail
  generalize w.alloc (.cells #[.slice none 0 0, .int .i64 0] 26) = v0 at *
  go_loopw [4, 5] (fun o i wr => ∃ (k : Nat) (ins : List (Nat × Int)), k ≤ n ∧ k ≤ 60 ∧ ins.length ≤ k ∧ i = .int .i64 (k : Int) ∧ wr.ownsRow w.heap.size 30 2 o ins.length (ins.flatMap opC) ∧ (∀ o ∈ ins, OpFit o) ∧ Wr w.heap.size wr w.heap.size (bitsAll ins) ∧ Chg w.heap.size [26, 5, 30] w wr) (fun _ i _ => n - (intOf i).toNat)
  case atStart => exact ⟨0, [], by omega, by omega, by simp, rfl, World.ownsRow_nil _ _ _ _, by simp, HW0.out, Chg.of_ext HX0.out⟩
  case round =>
    obtain ⟨k, ins, hk, hk60, hil, rfl, hown, hfit, hwr, hchg⟩ := hrel
    have HO := Lib.hid hown
    have HF := Lib.hid hfit
    have HW := Lib.hid hwr
    have HC := Lib.hid hchg
    clear hown hfit hwr hchg
    by_cases h1 : k < n
    · by_cases h2 : k < 60
      · obtain ⟨ad, rfl⟩ : ∃ ad, A = some ad := row_some HR.out opC_len (by decide) (by have := HN.out; omega)
        obtain ⟨u, m, hx⟩ : ∃ u m, xs[k]? = some (u, m) := ⟨_, _, List.getElem?_eq_getElem (by have := HN.out; omega)⟩
        have hrw := HR.out.ext (HC.out.to_ext (Nat.le_refl _))
        have c0 : wr.cell? (ad.add (k * 2)) = some (.int .u64 (u : Int)) := row_cell opC_len hrw k 0 hx rfl
        have c1 : wr.cell? ⟨(ad.add (k * 2)).block, (ad.add (k * 2)).off + 1, none⟩ = some (.int .i64 m) := row_field opC_len hrw k 1 (by decide) hx rfl
        have HX := Lib.hid hx
        clear hx
        by_cases hf : OpFit (u, m)
        · obtain ⟨m, rfl⟩ : ∃ j : Nat, m = (j : Int) := ⟨m.toNat, by have := hf.1; omega⟩
          have hm64 : m ≤ 64 := by have := hf.2.1; omega
          have hum : u < 2 ^ m := by have := hf.2.2; rwa [Int.toNat_natCast] at this
          have HFF := Lib.hid hf
          have HUM := Lib.hid hum
          clear hf hum
          have hbl := bitsAll_length_le ins HF.out
          go_wp2_with fail
          go_region_held3 (fun w' => w'.cell? (ad.add (k * 2)) = some (.int .u64 (u : Int)) ∧ w'.cell? ⟨(ad.add (k * 2)).block, (ad.add (k * 2)).off + 1, none⟩ = some (.int .i64 m)) (first | assumption | exact ⟨c0, c1⟩ | exact ⟨d0, d1⟩) (first
            | (go_at_call 11; refine (put_ok w.heap.size w.heap.size (bitsAll ins) u m _ (HW.out.ext (Ext.drewN _ _)) hm64 HUM.out (by omega) HC.out.size).mono ?_; rintro e w1 ⟨rfl, hw1, hc1⟩;
               have hrw1 := HR.out.ext (((HC.out.drewN _).trans (hc1.mono (by simp))).to_ext (Nat.le_refl _));
               have d0 : w1.cell? (ad.add (k * 2)) = some (.int .u64 (u : Int)) := row_cell opC_len hrw1 k 0 HX.out rfl;
               have d1 : w1.cell? ⟨(ad.add (k * 2)).block, (ad.add (k * 2)).off + 1, none⟩ = some (.int .i64 m) := row_field opC_len hrw1 k 1 (by decide) HX.out rfl))
          have HW1 := Lib.hid hw1
          have HC1 := Lib.hid ((HC.out.drewN _).trans (hc1.mono (by simp) : Chg w.heap.size [26, 5, 30] _ w1))
          have HO1 := Lib.hid (own_chg (own_chg HO.out (Chg.of_ext (B := 0) (S := []) (Ext.drewN _ _)) (by simp)) hc1 (by decide))
          clear hw1 hc1 hrw1
          go_wp2_with (first
            | (at_builtin
               refine app_row opC_len opC_one _ rfl (.tmp 36) (.tmp 41) 22 30 rfl i0 (.agg #[.int .u64 0, .int .i64 0]) 16 Try.underlying22 hi0 hz0 hz1 hz2 rfl (by decide) (by decide) w.heap.size _ ins rfl (by exact World.ownsRow.alloc HO1.out _) (Nat.le_trans HC1.out.size (Ext.alloc w1 _).size) (some ⟨w1.heap.size, 0, none⟩) 1 1 [(u, (m : Int))] rfl rfl (by exact Rd.new w1 #[_, _] 30) (by simp only [List.length_singleton]; omega) ?_
               intro v2 w2 hown2 hchg2
               have HO2 := Lib.hid hown2
               have HC2 := Lib.hid ((HC1.out.alloc _).trans (hchg2.mono (by simp)))
               have HW2 := Lib.hid ((HW1.out.ext (Ext.alloc _ _)).chg hchg2 (by decide) (by decide))
               clear hown2 hchg2 c0 c1 d0 d1))
          go_roundw
          case rel => exact ⟨k + 1, ins ++ [(u, (m : Int))], by omega, by omega, by simp; omega, by go_num, HO2.out, fit_snoc HF.out HFF.out, by rw [bitsAll_snoc]; exact HW2.out, HC2.out⟩
          case measure => simp [intOf]; omega
        · obtain ⟨hu, hm1, hm2⟩ := HOK.out (u, m) (List.mem_of_getElem? HX.out)
          have HNF := Lib.hid hf
          clear hf
          go_wp2_with fail
          go_region_held3 (fun w' => w'.cell? (ad.add (k * 2)) = some (.int .u64 (u : Int)) ∧ w'.cell? ⟨(ad.add (k * 2)).block, (ad.add (k * 2)).off + 1, none⟩ = some (.int .i64 m)) (first | assumption | exact ⟨c0, c1⟩) (first
            | (go_at_call 11; refine (put_bad ⟨w.heap.size, 0, none⟩ u m _ hu hm1 hm2 HNF.out).mono ?_; rintro e _ ⟨rfl, rfl⟩))
          go_wp2_with fail
          go_roundw
          case rel => exact ⟨k + 1, ins, by omega, by omega, by omega, by go_num, own_chg HO.out (Chg.of_ext (B := 0) (S := []) (Ext.drewN _ _)) (by simp), HF.out, HW.out.ext (Ext.drewN _ _), HC.out.drewN _⟩
          case measure => simp [intOf]; omega
      · have h2' : 60 ≤ k := by omega
        obtain ⟨A2, c2, rfl, h5, h6, h7⟩ := own_slice HO.out
        clear h7
        have hbl := bitsAll_length_le ins HF.out
        go_wp2_with fail
        refine (wbytes_any w.heap.size w.heap.size _ wr HW.out (by omega)).mono ?_
        rintro e _ ⟨s, rfl, hs, rfl⟩
        have HS := Lib.hid hs
        have hsz : s.size = ((bitsAll ins).length + 7) / 8 := by have := hs.1; rw [size_list] at this; exact this
        clear hs
        generalize hL : (bitsAll ins).length = L at hsz hbl
        have HL := Lib.hid hL
        clear hL
        go_wp2_with fail
        refine (len_any w.heap.size w.heap.size _ wr HW.out).mono ?_
        rintro e _ ⟨rfl, rfl⟩
        rw [HL.out]
        go_wp2_with fail
        refine (read_ok s L wr (by omega) (by omega)).mono ?_
        rintro e v1 ⟨rfl, hr1, hx1⟩
        have HR1 := Lib.hid hr1
        have HW1 := Lib.hid (HW.out.ext hx1)
        have HO1 := Lib.hid (own_chg HO.out (Chg.of_ext (B := 0) (S := []) hx1) (by simp))
        have HC1 := Lib.hid ((HC.out.then hx1).mono (by simp) : Chg w.heap.size [26, 5, 30, 55] w v1)
        clear hr1 hx1
        have hgr := HC.out.size
        generalize wr.heap.size = gr at *
        have HSZ := Lib.hid hsz
        have hsz2 : L ≤ 8 * s.size := by omega
        have hsz3 : s.size ≤ 481 := by omega
        clear hsz
        go_wp2_with fail
        go_loopw [8] (fun i v => ∃ j : Nat, j ≤ ins.length ∧ i = .int .i64 (j : Int) ∧ v.ownsRow w.heap.size 30 2 (.slice A2 ins.length c2) ins.length (ins.flatMap opC) ∧ Wr w.heap.size v w.heap.size (bitsAll ins) ∧ Rdr v gr s L (bitsAll (ins.take j)).length ∧ Chg w.heap.size [26, 5, 30, 55] w v) (fun i _ => ins.length - (intOf i).toNat)
        case atStart => exact ⟨0, by omega, rfl, HO1.out, HW1.out, HR1.out, HC1.out⟩
        case round =>
          obtain ⟨j, hj, rfl, hown, hwrr, hrd, hchg⟩ := hrel
          by_cases h3 : j < ins.length
          · obtain ⟨ad2, rfl⟩ : ∃ ad, A2 = some ad := row_some (Rd.own hown) opC_len (by decide) (by omega)
            obtain ⟨u, m, hx⟩ : ∃ u m, ins[j]? = some (u, m) := ⟨_, _, List.getElem?_eq_getElem h3⟩
            have hfit := HF.out (u, m) (List.mem_of_getElem? hx)
            obtain ⟨m, rfl⟩ : ∃ q : Nat, m = (q : Int) := ⟨m.toNat, by have := hfit.1; omega⟩
            have hm64 : m ≤ 64 := by have := hfit.2.1; omega
            have hum : u < 2 ^ m := by have := hfit.2.2; rwa [Int.toNat_natCast] at this
            have c0 : wr.cell? (ad2.add (j * 2)) = some (.int .u64 (u : Int)) := row_cell opC_len (Rd.own hown) j 0 hx rfl
            have c1 : wr.cell? ⟨(ad2.add (j * 2)).block, (ad2.add (j * 2)).off + 1, none⟩ = some (.int .i64 (m : Int)) := row_field opC_len (Rd.own hown) j 1 (by decide) hx rfl
            obtain ⟨hb1, hb2, hb3⟩ := back_bits hx HS.out HL.out hum
            have HB2 := Lib.hid hb2
            have HB3 := Lib.hid hb3
            have HUM := Lib.hid hum
            have HO2 := Lib.hid hown
            have HW2 := Lib.hid hwrr
            have HR2 := Lib.hid hrd
            have HC2 := Lib.hid hchg
            have HX2 := Lib.hid hx
            clear hown hwrr hrd hchg hum hfit hb2 hb3 hx
            go_wp2_with fail
            refine (get_ok w.heap.size gr s L _ m wr HR2.out hsz2 (by omega) hm64 hb1 hgr).mono ?_
            rintro e v2 ⟨rfl, hr3, hc3⟩
            rw [HB2.out]
            rw [← HB3.out] at hr3
            have HR3 := Lib.hid hr3
            have HO3 := Lib.hid (own_chg HO2.out hc3 (by decide))
            have HW3 := Lib.hid (HW2.out.chg hc3 (by decide) (by decide))
            have HC3 := Lib.hid (HC2.out.trans (hc3.mono (by simp)))
            have d0 : v2.cell? (ad2.add (j * 2)) = some (.int .u64 (u : Int)) := row_cell opC_len (Rd.own HO3.out) j 0 HX2.out rfl
            clear hr3 hc3 c0 c1
            go_wp2_with fail
            go_roundw
            case rel => exact ⟨j + 1, by omega, by go_num, HO3.out, HW3.out, HR3.out, HC3.out⟩
            case measure => simp [intOf]; omega
          · obtain rfl : j = ins.length := by omega
            rw [List.take_of_length_le (Nat.le_refl _), HL.out] at hrd
            go_wp2_with fail
            refine (left_any gr s L L wr hrd (Nat.le_refl _) (by omega)).mono ?_
            rintro e v4 ⟨rfl, hx⟩
            replace hx := ext_drew hx
            rw [Int.sub_self]
            have hx4 : Ext w v4 := (hchg.to_ext (Nat.le_refl _)).trans hx
            have HW4 := Lib.hid (hwrr.ext hx)
            clear hx hrd hwrr hown hchg
            go_wp2_with fail
            refine (wbytes_any w.heap.size w.heap.size _ v4 HW4.out (by have := HL.out; omega)).mono ?_
            rintro e _ ⟨s2, rfl, hs2, rfl⟩
            obtain rfl : s2 = s := bytes_ext (hs2.uniq HS.out)
            clear hs2
            go_wp2_with fail
            refine (len_any w.heap.size w.heap.size _ v4 HW4.out).mono ?_
            rintro e _ ⟨rfl, rfl⟩
            rw [HL.out]
            have hq : ((s2.size : Int) == ((L : Int) + 7) / 8) = true := by rw [beq_iff_eq]; have := HSZ.out; have := HL.out; omega
            go_wp2_with fail
            refine (known_any v4).mono ?_
            rintro e v5 ⟨rfl, h4⟩
            go_wp2_with fail
            go_ret
            exact ⟨rfl, hx4.trans h4⟩
    · obtain ⟨A2, c2, rfl, h5, h6, h7⟩ := own_slice HO.out
      clear h7
      have hbl := bitsAll_length_le ins HF.out
      go_wp2_with fail
      refine (wbytes_any w.heap.size w.heap.size _ wr HW.out (by omega)).mono ?_
      rintro e _ ⟨s, rfl, hs, rfl⟩
      have HS := Lib.hid hs
      have hsz : s.size = ((bitsAll ins).length + 7) / 8 := by have := hs.1; rw [size_list] at this; exact this
      clear hs
      generalize hL : (bitsAll ins).length = L at hsz hbl
      have HL := Lib.hid hL
      clear hL
      go_wp2_with fail
      refine (len_any w.heap.size w.heap.size _ wr HW.out).mono ?_
      rintro e _ ⟨rfl, rfl⟩
      rw [HL.out]
      go_wp2_with fail
      refine (read_ok s L wr (by omega) (by omega)).mono ?_
      rintro e v1 ⟨rfl, hr1, hx1⟩
      have HR1 := Lib.hid hr1
      have HW1 := Lib.hid (HW.out.ext hx1)
      have HO1 := Lib.hid (own_chg HO.out (Chg.of_ext (B := 0) (S := []) hx1) (by simp))
      have HC1 := Lib.hid ((HC.out.then hx1).mono (by simp) : Chg w.heap.size [26, 5, 30, 55] w v1)
      clear hr1 hx1
      have hgr := HC.out.size
      generalize wr.heap.size = gr at *
      have HSZ := Lib.hid hsz
      have hsz2 : L ≤ 8 * s.size := by omega
      have hsz3 : s.size ≤ 481 := by omega
      clear hsz
      go_wp2_with fail
      go_loopw [8] (fun i v => ∃ j : Nat, j ≤ ins.length ∧ i = .int .i64 (j : Int) ∧ v.ownsRow w.heap.size 30 2 (.slice A2 ins.length c2) ins.length (ins.flatMap opC) ∧ Wr w.heap.size v w.heap.size (bitsAll ins) ∧ Rdr v gr s L (bitsAll (ins.take j)).length ∧ Chg w.heap.size [26, 5, 30, 55] w v) (fun i _ => ins.length - (intOf i).toNat)
      case atStart => exact ⟨0, by omega, rfl, HO1.out, HW1.out, HR1.out, HC1.out⟩
      case round =>
        obtain ⟨j, hj, rfl, hown, hwrr, hrd, hchg⟩ := hrel
        by_cases h3 : j < ins.length
        · obtain ⟨ad2, rfl⟩ : ∃ ad, A2 = some ad := row_some (Rd.own hown) opC_len (by decide) (by omega)
          obtain ⟨u, m, hx⟩ : ∃ u m, ins[j]? = some (u, m) := ⟨_, _, List.getElem?_eq_getElem h3⟩
          have hfit := HF.out (u, m) (List.mem_of_getElem? hx)
          obtain ⟨m, rfl⟩ : ∃ q : Nat, m = (q : Int) := ⟨m.toNat, by have := hfit.1; omega⟩
          have hm64 : m ≤ 64 := by have := hfit.2.1; omega
          have hum : u < 2 ^ m := by have := hfit.2.2; rwa [Int.toNat_natCast] at this
          have c0 : wr.cell? (ad2.add (j * 2)) = some (.int .u64 (u : Int)) := row_cell opC_len (Rd.own hown) j 0 hx rfl
          have c1 : wr.cell? ⟨(ad2.add (j * 2)).block, (ad2.add (j * 2)).off + 1, none⟩ = some (.int .i64 (m : Int)) := row_field opC_len (Rd.own hown) j 1 (by decide) hx rfl
          obtain ⟨hb1, hb2, hb3⟩ := back_bits hx HS.out HL.out hum
          have HB2 := Lib.hid hb2
          have HB3 := Lib.hid hb3
          have HUM := Lib.hid hum
          have HO2 := Lib.hid hown
          have HW2 := Lib.hid hwrr
          have HR2 := Lib.hid hrd
          have HC2 := Lib.hid hchg
          have HX2 := Lib.hid hx
          clear hown hwrr hrd hchg hum hfit hb2 hb3 hx
          go_wp2_with fail
          refine (get_ok w.heap.size gr s L _ m wr HR2.out hsz2 (by omega) hm64 hb1 hgr).mono ?_
          rintro e v2 ⟨rfl, hr3, hc3⟩
          rw [HB2.out]
          rw [← HB3.out] at hr3
          have HR3 := Lib.hid hr3
          have HO3 := Lib.hid (own_chg HO2.out hc3 (by decide))
          have HW3 := Lib.hid (HW2.out.chg hc3 (by decide) (by decide))
          have HC3 := Lib.hid (HC2.out.trans (hc3.mono (by simp)))
          have d0 : v2.cell? (ad2.add (j * 2)) = some (.int .u64 (u : Int)) := row_cell opC_len (Rd.own HO3.out) j 0 HX2.out rfl
          clear hr3 hc3 c0 c1
          go_wp2_with fail
          go_roundw
          case rel => exact ⟨j + 1, by omega, by go_num, HO3.out, HW3.out, HR3.out, HC3.out⟩
          case measure => simp [intOf]; omega
        · obtain rfl : j = ins.length := by omega
          rw [List.take_of_length_le (Nat.le_refl _), HL.out] at hrd
          go_wp2_with fail
          refine (left_any gr s L L wr hrd (Nat.le_refl _) (by omega)).mono ?_
          rintro e v4 ⟨rfl, hx⟩
          replace hx := ext_drew hx
          rw [Int.sub_self]
          have hx4 : Ext w v4 := (hchg.to_ext (Nat.le_refl _)).trans hx
          have HW4 := Lib.hid (hwrr.ext hx)
          clear hx hrd hwrr hown hchg
          go_wp2_with fail
          refine (wbytes_any w.heap.size w.heap.size _ v4 HW4.out (by have := HL.out; omega)).mono ?_
          rintro e _ ⟨s2, rfl, hs2, rfl⟩
          obtain rfl : s2 = s := bytes_ext (hs2.uniq HS.out)
          clear hs2
          go_wp2_with fail
          refine (len_any w.heap.size w.heap.size _ v4 HW4.out).mono ?_
          rintro e _ ⟨rfl, rfl⟩
          rw [HL.out]
          have hq : ((s2.size : Int) == ((L : Int) + 7) / 8) = true := by rw [beq_iff_eq]; have := HSZ.out; have := HL.out; omega
          go_wp2_with fail
          refine (known_any v4).mono ?_
          rintro e v5 ⟨rfl, h4⟩
          go_wp2_with fail
          go_ret
          exact ⟨rfl, hx4.trans h4⟩
end Go.Proofs.Ytehkalncofbbhaa
