/- RespBack walked. -/
import Derived.Test.YtdbboooblbdihaaRsqC
namespace Go.Proofs.Ytdbboooblbdihaa
open Go.RowKit
set_option linter.unusedVariables false
set_option linter.unusedSectionVars false
set_option linter.unusedSimpArgs false
set_option maxRecDepth 100000



/-- What Decode tells of any bytes. -/
theorem decR_any (s : ByteArray) : (∃ b m, decR s.toList = (b, m, 0) ∧ rightL b ∧ (∀ x ∈ b, ItmOk x) ∧ 1 ≤ m ∧ m ≤ s.size ∧ b.length ≤ s.size ∧ encB b = s.extract 0 m) ∨ (decR s.toList = ([], 0, 3)) ∨ (decR s.toList = ([], 0, 4)) := by
  unfold decR
  cases hc : decP s.toList with
  | er c =>
    rcases dec_er hc with rfl | rfl
    · exact .inr (.inl rfl)
    · exact .inr (.inr rfl)
  | ok b l' =>
    obtain ⟨h1, h2, h3⟩ := dec_inv hc
    have hl := congrArg List.length h2
    rw [List.length_append, size_list] at hl
    have hp := encL_pos h1
    have hcn := encL_count b
    refine .inl ⟨b, s.size - l'.length, by rw [size_list], h1, h3, by omega, by omega, by omega, ?_⟩
    refine bytes_ext ?_
    rw [enc_list h1, ext_take, h2, show s.size - l'.length = (encL b).length by omega]
    rw [List.take_left' rfl]
theorem back_short {l : List Itm} (h : rightL l) (hx : ∀ x ∈ l, ItmOk x) {k : Nat} (hk : k < (encB l).size) : decR ((encB l).extract 0 k).toList = ([], 0, 3) := by
  have e : decP ((encB l).extract 0 k).toList = .er 3 := by
    rw [ext_take, enc_list h]
    have hl : k < (encL l).length := by rw [← enc_list h, size_list]; exact hk
    exact dec_short h hx (m := (encL l).drop k) (List.take_append_drop _ _).symm (by
      intro e
      have := congrArg List.length e
      rw [List.length_drop, List.length_nil] at this
      omega)
  unfold decR
  rw [e]
set_option maxHeartbeats 8000000 in
theorem respBack_any (va : Value) (l : List Itm) (s : ByteArray) (cut : Nat) (w : World) (ha : Row itC w va l) (hoa : ∀ x ∈ l, ItmOk x) (hcut : cut < 65536) (hs : s.size ≤ 9223372036854775807) : Calls Try.prog 6 #[va, .string s, .int .u16 (cut : Int)] w fun e w' => e = .returned (.bool true) ∧ Ext w w' := by
  have HA := Lib.hid ha
  have HOA := Lib.hid hoa
  obtain ⟨A, n, c, rfl, rfl, _⟩ := ha
  clear hoa
  by_cases h1 : l.length ≤ 40
  · have h1B : decide ((40 : Int) < (l.length : Int)) = false := decide_eq_false (by omega)
    have h1C : decide (40 < l.length) = false := decide_eq_false (by omega)
    by_cases h2 : s.size ≤ 1000
    · have h2B : decide ((1000 : Int) < (s.size : Int)) = false := decide_eq_false (by omega)
      have h2C : decide (1000 < s.size) = false := decide_eq_false (by omega)
      go_enter Try.func6, Try.ntmps6
      go_wp2_with fail
      refine (encode_any _ l w HA.out HOA.out (by omega)).mono ?_
      rintro e w1 ⟨rfl, hx1⟩
      have HX1 := Lib.hid hx1
      clear hx1
      by_cases hr : rightL l
      · have hte := enc_ne hr
        have htz := enc_size hr HOA.out
        have HSH := Lib.hid (fun (k : Nat) (hk : k < (encB l).size) => back_short hr HOA.out hk)
        have HD1 := Lib.hid (enc_dec hr HOA.out s)
        have ht0 : 0 < (encB l).size := by rw [← size_list, enc_list hr]; exact encL_pos hr
        generalize encB l = t at hte htz HSH HD1 ht0 ⊢
        have hbt : ¬ (9223372036854775807 < t.size + s.size) := by omega
        have hts : (t ++ s).size = t.size + s.size := by simp
        obtain ⟨k, hk⟩ : ∃ k, cut % t.size = k := ⟨_, rfl⟩
        have hkl : k < t.size := by rw [← hk]; exact Nat.mod_lt _ ht0
        have hrem1 : ((cut : Int)).tmod (t.size : Int) = (k : Int) := by rw [Int.tmod_eq_emod_of_nonneg (Int.natCast_nonneg cut), ← Int.natCast_emod, hk]
        have hrem2 : (cut : Int) % (t.size : Int) = (k : Int) := by rw [← hk, Int.natCast_emod]
        have hkI : (0 : Int) ≤ (k : Int) ∧ (k : Int) ≤ (t.size : Int) := by omega
        have hnzB : ((t.size : Int) == 0) = false := by rw [beq_eq_false_iff_ne]; omega
        have htk : (t.extract 0 k).size ≤ 50000 := by rw [← size_list, ext_take, List.length_take, size_list]; have := Nat.min_le_left k t.size; omega
        have HKD := Lib.hid (HSH.out k hkl)
        clear hr hk
        rcases decR_any s with ⟨b, m, hD2, hrb, hob, hm1, hm2, hbl, heq⟩ | hD2 | hD2
        · have HD2 := Lib.hid hD2
          clear hD2
          go_wp2_with fail
          refine (decode_any (t ++ s) w1 (by omega)).mono ?_
          rw [HD1.out]
          rintro e w2 ⟨v2, rfl, hr2, hx2⟩
          have HX2 := Lib.hid (HX1.out.trans hx2)
          have HR2 := Lib.hid hr2
          obtain ⟨A2, n2, c2, rfl, rfl, _⟩ := id hr2
          clear hr2 hx2 HX1
          go_wp2_with fail
          refine (decode_any s w2 (by omega)).mono ?_
          rw [HD2.out]
          rintro e w3 ⟨v3, rfl, hr3, hx3⟩
          have HX3 := Lib.hid (HX2.out.trans hx3)
          have HR3 := Lib.hid hr3
          replace HR2 := Lib.hid (HR2.out.ext hx3)
          obtain ⟨A3, n3, c3, rfl, rfl, _⟩ := id hr3
          clear hr3 hx3 HX2
          have HOB := Lib.hid hob
          have HEQ := Lib.hid heq
          have hm3 : ¬ (m : Int) < 1 := by omega
          have hm4 : decide ((m : Int) < 1) = false := decide_eq_false hm3
          have hm5 : decide ((s.size : Int) < (m : Int)) = false := decide_eq_false (by omega)
          have hm6 : (0 : Int) ≤ (m : Int) ∧ (m : Int) ≤ (s.size : Int) := by omega
          have hm7 : decide (s.size < m) = false := decide_eq_false (by omega)
          have hm8 : decide (m < 1) = false := decide_eq_false (by omega)
          have hmm : ((s.extract 0 m).toList != (s.extract 0 m).toList) = false := by simp
          clear hob heq
          go_upto_region 6 with fail
          refine wp_region_held_drew (S := fun _ => True) (by kernel_rfl) trivial (fun hHeld => ?_)
          have hxt : Ext w3 w3.drew := Ext.drew _
          generalize w3.drew = v1 at hxt hHeld ⊢
          refine' wpAnyH_take (i := 0) (oi := _) (v := _) ?hi21 ?hs21 ?hf21 ?hr21 ?hQ21 (Or.inl ⟨?hw21, ?hy21⟩) (by assumption) ?hrest21
          case hi21 => simp only [List.getElem?_toArray]; rfl
          case hs21 => kernel_rfl
          case hf21 => kernel_rfl
          case hr21 => kernel_rfl
          case hQ21 => exact fun _ _ _ h => h
          case hw21 => rfl
          case hy21 => intro w hSw; (try dsimp only at hSw); go_simp; try with_reducible rfl
          try simp only [Act.put, List.setIfInBounds_toArray, List.set_cons_zero, List.set_cons_succ]
          refine' wpAnyH_take (i := 1) (oi := _) (v := _) ?hi22 ?hs22 ?hf22 ?hr22 ?hQ22 (Or.inl ⟨?hw22, ?hy22⟩) (by assumption) ?hrest22
          case hi22 => simp only [List.getElem?_toArray]; rfl
          case hs22 => kernel_rfl
          case hf22 => kernel_rfl
          case hr22 => kernel_rfl
          case hQ22 => exact fun _ _ _ h => h
          case hw22 => rfl
          case hy22 => intro w hSw; (try dsimp only at hSw); go_simp; try with_reducible rfl
          try simp only [Act.put, List.setIfInBounds_toArray, List.set_cons_zero, List.set_cons_succ]
          refine' wpAnyH_take (i := 2) (oi := _) (v := _) ?hi23 ?hs23 ?hf23 ?hr23 ?hQ23 (Or.inl ⟨?hw23, ?hy23⟩) (by assumption) ?hrest23
          case hi23 => simp only [List.getElem?_toArray]; rfl
          case hs23 => kernel_rfl
          case hf23 => kernel_rfl
          case hr23 => kernel_rfl
          case hQ23 => exact fun _ _ _ h => h
          case hw23 => rfl
          case hy23 => intro w hSw; (try dsimp only at hSw); go_simp; try with_reducible rfl
          try simp only [Act.put, List.setIfInBounds_toArray, List.set_cons_zero, List.set_cons_succ]
          refine' wpAnyH_take (i := 3) (oi := _) (v := _) ?hi24 ?hs24 ?hf24 ?hr24 ?hQ24 (Or.inl ⟨?hw24, ?hy24⟩) (by assumption) ?hrest24
          case hi24 => simp only [List.getElem?_toArray]; rfl
          case hs24 => kernel_rfl
          case hf24 => kernel_rfl
          case hr24 => kernel_rfl
          case hQ24 => exact fun _ _ _ h => h
          case hw24 => rfl
          case hy24 => intro w hSw; (try dsimp only at hSw); go_simp; try with_reducible rfl
          try simp only [Act.put, List.setIfInBounds_toArray, List.set_cons_zero, List.set_cons_succ]
          refine' wpAnyH_take (i := 4) (oi := _) (v := _) ?hi25 ?hs25 ?hf25 ?hr25 ?hQ25 (Or.inl ⟨?hw25, ?hy25⟩) (by assumption) ?hrest25
          case hi25 => simp only [List.getElem?_toArray]; rfl
          case hs25 => kernel_rfl
          case hf25 => kernel_rfl
          case hr25 => kernel_rfl
          case hQ25 => exact fun _ _ _ h => h
          case hw25 => rfl
          case hy25 => intro w hSw; (try dsimp only at hSw); go_simp; try with_reducible rfl
          try simp only [Act.put, List.setIfInBounds_toArray, List.set_cons_zero, List.set_cons_succ]
          refine' wpAnyH_take (i := 5) (oi := _) (v := _) ?hi26 ?hs26 ?hf26 ?hr26 ?hQ26 (Or.inl ⟨?hw26, ?hy26⟩) (by assumption) ?hrest26
          case hi26 => simp only [List.getElem?_toArray]; rfl
          case hs26 => kernel_rfl
          case hf26 => kernel_rfl
          case hr26 => kernel_rfl
          case hQ26 => exact fun _ _ _ h => h
          case hw26 => rfl
          case hy26 => intro w hSw; (try dsimp only at hSw); go_simp; try with_reducible rfl
          try simp only [Act.put, List.setIfInBounds_toArray, List.set_cons_zero, List.set_cons_succ]
          refine' wpAnyH_take (i := 6) (oi := _) (v := _) ?hi27 ?hs27 ?hf27 ?hr27 ?hQ27 (Or.inl ⟨?hw27, ?hy27⟩) (by assumption) ?hrest27
          case hi27 => simp only [List.getElem?_toArray]; rfl
          case hs27 => kernel_rfl
          case hf27 => kernel_rfl
          case hr27 => kernel_rfl
          case hQ27 => exact fun _ _ _ h => h
          case hw27 => rfl
          case hy27 => intro w hSw; (try dsimp only at hSw); go_simp; try with_reducible rfl
          try simp only [Act.put, List.setIfInBounds_toArray, List.set_cons_zero, List.set_cons_succ]
          refine' wpAnyH_take (i := 7) (oi := _) (v := _) ?hi28 ?hs28 ?hf28 ?hr28 ?hQ28 (Or.inl ⟨?hw28, ?hy28⟩) (by assumption) ?hrest28
          case hi28 => simp only [List.getElem?_toArray]; rfl
          case hs28 => kernel_rfl
          case hf28 => kernel_rfl
          case hr28 => kernel_rfl
          case hQ28 => exact fun _ _ _ h => h
          case hw28 => rfl
          case hy28 => intro w hSw; (try dsimp only at hSw); go_simp; try with_reducible rfl
          try simp only [Act.put, List.setIfInBounds_toArray, List.set_cons_zero, List.set_cons_succ]
          refine' wpAnyH_take (i := 8) (oi := _) (v := _) ?hi29 ?hs29 ?hf29 ?hr29 ?hQ29 (Or.inl ⟨?hw29, ?hy29⟩) (by assumption) ?hrest29
          case hi29 => simp only [List.getElem?_toArray]; rfl
          case hs29 => kernel_rfl
          case hf29 => kernel_rfl
          case hr29 => kernel_rfl
          case hQ29 => exact fun _ _ _ h => h
          case hw29 => rfl
          case hy29 => intro w hSw; (try dsimp only at hSw); go_simp; try with_reducible rfl
          try simp only [Act.put, List.setIfInBounds_toArray, List.set_cons_zero, List.set_cons_succ]
          refine' wpAnyH_take (i := 9) (oi := _) (v := _) ?hi30 ?hs30 ?hf30 ?hr30 ?hQ30 (Or.inl ⟨?hw30, ?hy30⟩) (by assumption) ?hrest30
          case hi30 => simp only [List.getElem?_toArray]; rfl
          case hs30 => kernel_rfl
          case hf30 => kernel_rfl
          case hr30 => kernel_rfl
          case hQ30 => exact fun _ _ _ h => h
          case hw30 => rfl
          case hy30 => intro w hSw; (try dsimp only at hSw); go_simp; try with_reducible rfl
          try simp only [Act.put, List.setIfInBounds_toArray, List.set_cons_zero, List.set_cons_succ]
          refine' wpAnyH_take (i := 10) (oi := _) (v := _) ?hi31 ?hs31 ?hf31 ?hr31 ?hQ31 (Or.inl ⟨?hw31, ?hy31⟩) (by assumption) ?hrest31
          case hi31 => simp only [List.getElem?_toArray]; rfl
          case hs31 => kernel_rfl
          case hf31 => kernel_rfl
          case hr31 => kernel_rfl
          case hQ31 => exact fun _ _ _ h => h
          case hw31 => rfl
          case hy31 => intro w hSw; (try dsimp only at hSw); go_simp; try with_reducible rfl
          try simp only [Act.put, List.setIfInBounds_toArray, List.set_cons_zero, List.set_cons_succ]
          refine' wpAnyH_take (i := 11) (oi := _) (v := _) ?hi32 ?hs32 ?hf32 ?hr32 ?hQ32 (Or.inl ⟨?hw32, ?hy32⟩) (by assumption) ?hrest32
          case hi32 => simp only [List.getElem?_toArray]; rfl
          case hs32 => kernel_rfl
          case hf32 => kernel_rfl
          case hr32 => kernel_rfl
          case hQ32 => exact fun _ _ _ h => h
          case hw32 => rfl
          case hy32 => intro w hSw; (try dsimp only at hSw); go_simp; try with_reducible rfl
          try simp only [Act.put, List.setIfInBounds_toArray, List.set_cons_zero, List.set_cons_succ]
          refine' wpAnyH_take (i := 12) (oi := _) (v := _) ?hi33 ?hs33 ?hf33 ?hr33 ?hQ33 (Or.inl ⟨?hw33, ?hy33⟩) (by assumption) ?hrest33
          case hi33 => simp only [List.getElem?_toArray]; rfl
          case hs33 => kernel_rfl
          case hf33 => kernel_rfl
          case hr33 => kernel_rfl
          case hQ33 => exact fun _ _ _ h => h
          case hw33 => rfl
          case hy33 => intro w hSw; (try dsimp only at hSw); go_simp; try with_reducible rfl
          try simp only [Act.put, List.setIfInBounds_toArray, List.set_cons_zero, List.set_cons_succ]
          refine' wpAnyH_take (i := 14) (oi := _) (v := _) ?hi34 ?hs34 ?hf34 ?hr34 ?hQ34 (Or.inl ⟨?hw34, ?hy34⟩) (by assumption) ?hrest34
          case hi34 => simp only [List.getElem?_toArray]; rfl
          case hs34 => kernel_rfl
          case hf34 => kernel_rfl
          case hr34 => kernel_rfl
          case hQ34 => exact fun _ _ _ h => h
          case hw34 => rfl
          case hy34 => intro w hSw; (try dsimp only at hSw); go_simp; try with_reducible rfl
          try simp only [Act.put, List.setIfInBounds_toArray, List.set_cons_zero, List.set_cons_succ]
          refine' wpAnyH_take (i := 15) (oi := _) (v := _) ?hi35 ?hs35 ?hf35 ?hr35 ?hQ35 (Or.inl ⟨?hw35, ?hy35⟩) (by assumption) ?hrest35
          case hi35 => simp only [List.getElem?_toArray]; rfl
          case hs35 => kernel_rfl
          case hf35 => kernel_rfl
          case hr35 => kernel_rfl
          case hQ35 => exact fun _ _ _ h => h
          case hw35 => rfl
          case hy35 => intro w hSw; (try dsimp only at hSw); go_simp; try with_reducible rfl
          try simp only [Act.put, List.setIfInBounds_toArray, List.set_cons_zero, List.set_cons_succ]
          refine' wpAnyH_take (i := 16) (oi := _) (v := _) ?hi36 ?hs36 ?hf36 ?hr36 ?hQ36 (Or.inl ⟨?hw36, ?hy36⟩) (by assumption) ?hrest36
          case hi36 => simp only [List.getElem?_toArray]; rfl
          case hs36 => kernel_rfl
          case hf36 => kernel_rfl
          case hr36 => kernel_rfl
          case hQ36 => exact fun _ _ _ h => h
          case hw36 => rfl
          case hy36 => intro w hSw; (try dsimp only at hSw); go_simp; try with_reducible rfl
          try simp only [Act.put, List.setIfInBounds_toArray, List.set_cons_zero, List.set_cons_succ]
          refine wpAnyH_ready (rs := [13]) (by kernel_rfl) (by simp) ?_
          refine' AllReadyH.cons (o := _) ?ho37 (fun K hK => ?hstep37) AllReadyH.nil
          case ho37 => simp only [List.getElem?_toArray]; rfl
          go_simp
          refine (encode_any _ b v1 (HR3.out.ext hxt) HOB.out (by omega)).mono ?_
          rintro e w4 ⟨rfl, hx4⟩
          rw [HEQ.out]
          have hxt4 := hxt.trans hx4
          refine hK.out _ _ (trivial) (fun hHeld => ?_)
          clear hK K
          try simp only [Act.put, List.setIfInBounds_toArray, List.set_cons_zero, List.set_cons_succ]
          refine' wpAnyH_take (i := 17) (oi := _) (v := _) ?hi39 ?hs39 ?hf39 ?hr39 ?hQ39 (Or.inl ⟨?hw39, ?hy39⟩) (by assumption) ?hrest39
          case hi39 => simp only [List.getElem?_toArray]; rfl
          case hs39 => kernel_rfl
          case hf39 => kernel_rfl
          case hr39 => kernel_rfl
          case hQ39 => exact fun _ _ _ h => h
          case hw39 => rfl
          case hy39 => intro w hSw; (try dsimp only at hSw); go_simp; try with_reducible rfl
          try simp only [Act.put, List.setIfInBounds_toArray, List.set_cons_zero, List.set_cons_succ]
          refine' wpAnyH_take (i := 18) (oi := _) (v := _) ?hi40 ?hs40 ?hf40 ?hr40 ?hQ40 (Or.inl ⟨?hw40, ?hy40⟩) (by assumption) ?hrest40
          case hi40 => simp only [List.getElem?_toArray]; rfl
          case hs40 => kernel_rfl
          case hf40 => kernel_rfl
          case hr40 => kernel_rfl
          case hQ40 => exact fun _ _ _ h => h
          case hw40 => rfl
          case hy40 => intro w hSw; (try dsimp only at hSw); go_simp; try with_reducible rfl
          try simp only [Act.put, List.setIfInBounds_toArray, List.set_cons_zero, List.set_cons_succ]
          refine' wpAnyH_take (i := 19) (oi := _) (v := _) ?hi41 ?hs41 ?hf41 ?hr41 ?hQ41 (Or.inl ⟨?hw41, ?hy41⟩) (by assumption) ?hrest41
          case hi41 => simp only [List.getElem?_toArray]; rfl
          case hs41 => kernel_rfl
          case hf41 => kernel_rfl
          case hr41 => kernel_rfl
          case hQ41 => exact fun _ _ _ h => h
          case hw41 => rfl
          case hy41 => intro w hSw; (try dsimp only at hSw); go_simp; try with_reducible rfl
          try simp only [Act.put, List.setIfInBounds_toArray, List.set_cons_zero, List.set_cons_succ]
          refine' wpAnyH_take (i := 20) (oi := _) (v := _) ?hi42 ?hs42 ?hf42 ?hr42 ?hQ42 (Or.inl ⟨?hw42, ?hy42⟩) (by assumption) ?hrest42
          case hi42 => simp only [List.getElem?_toArray]; rfl
          case hs42 => kernel_rfl
          case hf42 => kernel_rfl
          case hr42 => kernel_rfl
          case hQ42 => exact fun _ _ _ h => h
          case hw42 => rfl
          case hy42 => intro w hSw; (try dsimp only at hSw); go_simp; try with_reducible rfl
          try simp only [Act.put, List.setIfInBounds_toArray, List.set_cons_zero, List.set_cons_succ]
          refine' wpAnyH_take (i := 21) (oi := _) (v := _) ?hi43 ?hs43 ?hf43 ?hr43 ?hQ43 (Or.inl ⟨?hw43, ?hy43⟩) (by assumption) ?hrest43
          case hi43 => simp only [List.getElem?_toArray]; rfl
          case hs43 => kernel_rfl
          case hf43 => kernel_rfl
          case hr43 => kernel_rfl
          case hQ43 => exact fun _ _ _ h => h
          case hw43 => rfl
          case hy43 => intro w hSw; (try dsimp only at hSw); go_simp; try with_reducible rfl
          try simp only [Act.put, List.setIfInBounds_toArray, List.set_cons_zero, List.set_cons_succ]
          refine' wpAnyH_take (i := 22) (oi := _) (v := _) ?hi44 ?hs44 ?hf44 ?hr44 ?hQ44 (Or.inl ⟨?hw44, ?hy44⟩) (by assumption) ?hrest44
          case hi44 => simp only [List.getElem?_toArray]; rfl
          case hs44 => kernel_rfl
          case hf44 => kernel_rfl
          case hr44 => kernel_rfl
          case hQ44 => exact fun _ _ _ h => h
          case hw44 => rfl
          case hy44 => intro w hSw; (try dsimp only at hSw); go_simp; try with_reducible rfl
          try simp only [Act.put, List.setIfInBounds_toArray, List.set_cons_zero, List.set_cons_succ]
          refine' wpAnyH_take (i := 23) (oi := _) (v := _) ?hi45 ?hs45 ?hf45 ?hr45 ?hQ45 (Or.inl ⟨?hw45, ?hy45⟩) (by assumption) ?hrest45
          case hi45 => simp only [List.getElem?_toArray]; rfl
          case hs45 => kernel_rfl
          case hf45 => kernel_rfl
          case hr45 => kernel_rfl
          case hQ45 => exact fun _ _ _ h => h
          case hw45 => rfl
          case hy45 => intro w hSw; (try dsimp only at hSw); go_simp; try with_reducible rfl
          try simp only [Act.put, List.setIfInBounds_toArray, List.set_cons_zero, List.set_cons_succ]
          refine' wpAnyH_take (i := 24) (oi := _) (v := undef) ?hi46 ?hs46 ?hf46 ?hr46 ?hQ46 (Or.inr ⟨?hw46, rfl⟩) (by assumption) ?hrest46
          case hi46 => simp only [List.getElem?_toArray]; rfl
          case hs46 => kernel_rfl
          case hf46 => kernel_rfl
          case hr46 => kernel_rfl
          case hQ46 => exact fun _ _ _ h => h
          case hw46 => rfl
          try simp only [Act.put, List.setIfInBounds_toArray, List.set_cons_zero, List.set_cons_succ]
          refine' wpAnyH_take (i := 25) (oi := _) (v := undef) ?hi47 ?hs47 ?hf47 ?hr47 ?hQ47 (Or.inr ⟨?hw47, rfl⟩) (by assumption) ?hrest47
          case hi47 => simp only [List.getElem?_toArray]; rfl
          case hs47 => kernel_rfl
          case hf47 => kernel_rfl
          case hr47 => kernel_rfl
          case hQ47 => exact fun _ _ _ h => h
          case hw47 => rfl
          try simp only [Act.put, List.setIfInBounds_toArray, List.set_cons_zero, List.set_cons_succ]
          refine' wpAnyH_take (i := 26) (oi := _) (v := undef) ?hi48 ?hs48 ?hf48 ?hr48 ?hQ48 (Or.inr ⟨?hw48, rfl⟩) (by assumption) ?hrest48
          case hi48 => simp only [List.getElem?_toArray]; rfl
          case hs48 => kernel_rfl
          case hf48 => kernel_rfl
          case hr48 => kernel_rfl
          case hQ48 => exact fun _ _ _ h => h
          case hw48 => rfl
          try simp only [Act.put, List.setIfInBounds_toArray, List.set_cons_zero, List.set_cons_succ]
          refine' wpAnyH_take (i := 27) (oi := _) (v := undef) ?hi49 ?hs49 ?hf49 ?hr49 ?hQ49 (Or.inr ⟨?hw49, rfl⟩) (by assumption) ?hrest49
          case hi49 => simp only [List.getElem?_toArray]; rfl
          case hs49 => kernel_rfl
          case hf49 => kernel_rfl
          case hr49 => kernel_rfl
          case hQ49 => exact fun _ _ _ h => h
          case hw49 => rfl
          try simp only [Act.put, List.setIfInBounds_toArray, List.set_cons_zero, List.set_cons_succ]
          refine' wpAnyH_take (i := 28) (oi := _) (v := undef) ?hi50 ?hs50 ?hf50 ?hr50 ?hQ50 (Or.inr ⟨?hw50, rfl⟩) (by assumption) ?hrest50
          case hi50 => simp only [List.getElem?_toArray]; rfl
          case hs50 => kernel_rfl
          case hf50 => kernel_rfl
          case hr50 => kernel_rfl
          case hQ50 => exact fun _ _ _ h => h
          case hw50 => rfl
          try simp only [Act.put, List.setIfInBounds_toArray, List.set_cons_zero, List.set_cons_succ]
          refine' wpAnyH_take (i := 29) (oi := _) (v := undef) ?hi51 ?hs51 ?hf51 ?hr51 ?hQ51 (Or.inr ⟨?hw51, rfl⟩) (by assumption) ?hrest51
          case hi51 => simp only [List.getElem?_toArray]; rfl
          case hs51 => kernel_rfl
          case hf51 => kernel_rfl
          case hr51 => kernel_rfl
          case hQ51 => exact fun _ _ _ h => h
          case hw51 => rfl
          try simp only [Act.put, List.setIfInBounds_toArray, List.set_cons_zero, List.set_cons_succ]
          refine' wpAnyH_take (i := 30) (oi := _) (v := undef) ?hi52 ?hs52 ?hf52 ?hr52 ?hQ52 (Or.inr ⟨?hw52, rfl⟩) (by assumption) ?hrest52
          case hi52 => simp only [List.getElem?_toArray]; rfl
          case hs52 => kernel_rfl
          case hf52 => kernel_rfl
          case hr52 => kernel_rfl
          case hQ52 => exact fun _ _ _ h => h
          case hw52 => rfl
          try simp only [Act.put, List.setIfInBounds_toArray, List.set_cons_zero, List.set_cons_succ]
          refine' wpAnyH_take (i := 31) (oi := _) (v := undef) ?hi53 ?hs53 ?hf53 ?hr53 ?hQ53 (Or.inr ⟨?hw53, rfl⟩) (by assumption) ?hrest53
          case hi53 => simp only [List.getElem?_toArray]; rfl
          case hs53 => kernel_rfl
          case hf53 => kernel_rfl
          case hr53 => kernel_rfl
          case hQ53 => exact fun _ _ _ h => h
          case hw53 => rfl
          try simp only [Act.put, List.setIfInBounds_toArray, List.set_cons_zero, List.set_cons_succ]
          refine' wpAnyH_take (i := 32) (oi := _) (v := undef) ?hi54 ?hs54 ?hf54 ?hr54 ?hQ54 (Or.inr ⟨?hw54, rfl⟩) (by assumption) ?hrest54
          case hi54 => simp only [List.getElem?_toArray]; rfl
          case hs54 => kernel_rfl
          case hf54 => kernel_rfl
          case hr54 => kernel_rfl
          case hQ54 => exact fun _ _ _ h => h
          case hw54 => rfl
          try simp only [Act.put, List.setIfInBounds_toArray, List.set_cons_zero, List.set_cons_succ]
          refine' wpAnyH_take (i := 33) (oi := _) (v := undef) ?hi55 ?hs55 ?hf55 ?hr55 ?hQ55 (Or.inr ⟨?hw55, rfl⟩) (by assumption) ?hrest55
          case hi55 => simp only [List.getElem?_toArray]; rfl
          case hs55 => kernel_rfl
          case hf55 => kernel_rfl
          case hr55 => kernel_rfl
          case hQ55 => exact fun _ _ _ h => h
          case hw55 => rfl
          try simp only [Act.put, List.setIfInBounds_toArray, List.set_cons_zero, List.set_cons_succ]
          refine' wpAnyH_take (i := 34) (oi := _) (v := undef) ?hi56 ?hs56 ?hf56 ?hr56 ?hQ56 (Or.inr ⟨?hw56, rfl⟩) (by assumption) ?hrest56
          case hi56 => simp only [List.getElem?_toArray]; rfl
          case hs56 => kernel_rfl
          case hf56 => kernel_rfl
          case hr56 => kernel_rfl
          case hQ56 => exact fun _ _ _ h => h
          case hw56 => rfl
          try simp only [Act.put, List.setIfInBounds_toArray, List.set_cons_zero, List.set_cons_succ]
          refine' wpAnyH_take (i := 35) (oi := _) (v := undef) ?hi57 ?hs57 ?hf57 ?hr57 ?hQ57 (Or.inr ⟨?hw57, rfl⟩) (by assumption) ?hrest57
          case hi57 => simp only [List.getElem?_toArray]; rfl
          case hs57 => kernel_rfl
          case hf57 => kernel_rfl
          case hr57 => kernel_rfl
          case hQ57 => exact fun _ _ _ h => h
          case hw57 => rfl
          try simp only [Act.put, List.setIfInBounds_toArray, List.set_cons_zero, List.set_cons_succ]
          refine' wpAnyH_take (i := 36) (oi := _) (v := undef) ?hi58 ?hs58 ?hf58 ?hr58 ?hQ58 (Or.inr ⟨?hw58, rfl⟩) (by assumption) ?hrest58
          case hi58 => simp only [List.getElem?_toArray]; rfl
          case hs58 => kernel_rfl
          case hf58 => kernel_rfl
          case hr58 => kernel_rfl
          case hQ58 => exact fun _ _ _ h => h
          case hw58 => rfl
          try simp only [Act.put, List.setIfInBounds_toArray, List.set_cons_zero, List.set_cons_succ]
          refine' wpAnyH_take (i := 37) (oi := _) (v := undef) ?hi59 ?hs59 ?hf59 ?hr59 ?hQ59 (Or.inr ⟨?hw59, rfl⟩) (by assumption) ?hrest59
          case hi59 => simp only [List.getElem?_toArray]; rfl
          case hs59 => kernel_rfl
          case hf59 => kernel_rfl
          case hr59 => kernel_rfl
          case hQ59 => exact fun _ _ _ h => h
          case hw59 => rfl
          try simp only [Act.put, List.setIfInBounds_toArray, List.set_cons_zero, List.set_cons_succ]
          refine' wpAnyH_take (i := 38) (oi := _) (v := undef) ?hi60 ?hs60 ?hf60 ?hr60 ?hQ60 (Or.inr ⟨?hw60, rfl⟩) (by assumption) ?hrest60
          case hi60 => simp only [List.getElem?_toArray]; rfl
          case hs60 => kernel_rfl
          case hf60 => kernel_rfl
          case hr60 => kernel_rfl
          case hQ60 => exact fun _ _ _ h => h
          case hw60 => rfl
          try simp only [Act.put, List.setIfInBounds_toArray, List.set_cons_zero, List.set_cons_succ]
          refine' wpAnyH_take (i := 39) (oi := _) (v := _) ?hi61 ?hs61 ?hf61 ?hr61 ?hQ61 (Or.inl ⟨?hw61, ?hy61⟩) (by assumption) ?hrest61
          case hi61 => simp only [List.getElem?_toArray]; rfl
          case hs61 => kernel_rfl
          case hf61 => kernel_rfl
          case hr61 => kernel_rfl
          case hQ61 => exact fun _ _ _ h => h
          case hw61 => rfl
          case hy61 => intro w hSw; (try dsimp only at hSw); go_simp; try with_reducible rfl
          try simp only [Act.put, List.setIfInBounds_toArray, List.set_cons_zero, List.set_cons_succ]
          refine' wpAnyH_take (i := 40) (oi := _) (v := _) ?hi62 ?hs62 ?hf62 ?hr62 ?hQ62 (Or.inl ⟨?hw62, ?hy62⟩) (by assumption) ?hrest62
          case hi62 => simp only [List.getElem?_toArray]; rfl
          case hs62 => kernel_rfl
          case hf62 => kernel_rfl
          case hr62 => kernel_rfl
          case hQ62 => exact fun _ _ _ h => h
          case hw62 => rfl
          case hy62 => intro w hSw; (try dsimp only at hSw); go_simp; try with_reducible rfl
          try simp only [Act.put, List.setIfInBounds_toArray, List.set_cons_zero, List.set_cons_succ]
          refine wpAnyH_done (by kernel_rfl) ?_ _
          have HX4 := Lib.hid (HX3.out.trans hxt4)
          replace HR2 := Lib.hid (HR2.out.ext hxt4)
          clear hxt hx4 hxt4 HX3 HR3 hm3 hm4 hm5 hm6 hm7 hm8 hmm hHeld
          go_wp2_with fail
          refine (decode_any (t.extract 0 k) w4 (by omega)).mono ?_
          rw [HKD.out]
          rintro e w5 ⟨v5, rfl, _, hx5⟩
          have HX5 := Lib.hid (HX4.out.trans hx5)
          replace HR2 := Lib.hid (HR2.out.ext hx5)
          clear hx5 HX4
          go_wp2_with fail
          refine (litems_any _ l w5 HR2.out (by omega)).mono ?_
          rintro e wa ⟨ua, rfl, hua, hxa⟩
          have HXA := Lib.hid (HX5.out.trans hxa)
          have HUA := Lib.hid hua
          clear hxa hua
          go_wp2_with fail
          refine (litems_any _ l wa (HA.out.ext HXA.out) (by omega)).mono ?_
          rintro e wb ⟨ub, rfl, hub, hxb⟩
          have HXB := Lib.hid (HXA.out.trans hxb)
          have HUB := Lib.hid hub
          replace HUA := Lib.hid (HUA.out.ext hxb)
          clear hxb hub
          go_wp2_with fail
          refine (ralike_any _ _ _ _ wb HUA.out HUB.out).mono ?_
          rw [show decide (l = l) = true from decide_eq_true rfl]
          rintro e wc ⟨rfl, hxc⟩
          have HXC := Lib.hid (HXB.out.trans hxc)
          clear hxc
          go_wp2_with fail
          refine (known_any _).mono ?_
          rintro e wk ⟨rfl, hxk⟩
          have HXK := Lib.hid ((HXC.out).trans hxk)
          clear hxk
          go_wp2_with fail
          go_ret
          exact ⟨rfl, HXK.out⟩
        · have HD2 := Lib.hid hD2
          clear hD2
          go_wp2_with fail
          refine (decode_any (t ++ s) w1 (by omega)).mono ?_
          rw [HD1.out]
          rintro e w2 ⟨v2, rfl, hr2, hx2⟩
          have HX2 := Lib.hid (HX1.out.trans hx2)
          have HR2 := Lib.hid hr2
          obtain ⟨A2, n2, c2, rfl, rfl, _⟩ := id hr2
          clear hr2 hx2 HX1
          go_wp2_with fail
          refine (decode_any s w2 (by omega)).mono ?_
          rw [HD2.out]
          rintro e w3 ⟨v3, rfl, hr3, hx3⟩
          have HX3 := Lib.hid (HX2.out.trans hx3)
          have HR3 := Lib.hid hr3
          replace HR2 := Lib.hid (HR2.out.ext hx3)
          obtain ⟨A3, n3, c3, rfl, rfl, _⟩ := id hr3
          clear hr3 hx3 HX2
          go_upto_region 6 with fail
          go_quiet (fail)
          have hxt := Ext.drewN nq w3
          generalize w3.drewN nq = w4 at hxt ⊢
          have HX4 := Lib.hid (HX3.out.trans hxt)
          replace HR2 := Lib.hid (HR2.out.ext hxt)
          clear hxt HX3 HR3
          go_wp2_with fail
          refine (decode_any (t.extract 0 k) w4 (by omega)).mono ?_
          rw [HKD.out]
          rintro e w5 ⟨v5, rfl, _, hx5⟩
          have HX5 := Lib.hid (HX4.out.trans hx5)
          replace HR2 := Lib.hid (HR2.out.ext hx5)
          clear hx5 HX4
          go_wp2_with fail
          refine (litems_any _ l w5 HR2.out (by omega)).mono ?_
          rintro e wa ⟨ua, rfl, hua, hxa⟩
          have HXA := Lib.hid (HX5.out.trans hxa)
          have HUA := Lib.hid hua
          clear hxa hua
          go_wp2_with fail
          refine (litems_any _ l wa (HA.out.ext HXA.out) (by omega)).mono ?_
          rintro e wb ⟨ub, rfl, hub, hxb⟩
          have HXB := Lib.hid (HXA.out.trans hxb)
          have HUB := Lib.hid hub
          replace HUA := Lib.hid (HUA.out.ext hxb)
          clear hxb hub
          go_wp2_with fail
          refine (ralike_any _ _ _ _ wb HUA.out HUB.out).mono ?_
          rw [show decide (l = l) = true from decide_eq_true rfl]
          rintro e wc ⟨rfl, hxc⟩
          have HXC := Lib.hid (HXB.out.trans hxc)
          clear hxc
          go_wp2_with fail
          refine (known_any _).mono ?_
          rintro e wk ⟨rfl, hxk⟩
          have HXK := Lib.hid ((HXC.out).trans hxk)
          clear hxk
          go_wp2_with fail
          go_ret
          exact ⟨rfl, HXK.out⟩
        · have HD2 := Lib.hid hD2
          clear hD2
          go_wp2_with fail
          refine (decode_any (t ++ s) w1 (by omega)).mono ?_
          rw [HD1.out]
          rintro e w2 ⟨v2, rfl, hr2, hx2⟩
          have HX2 := Lib.hid (HX1.out.trans hx2)
          have HR2 := Lib.hid hr2
          obtain ⟨A2, n2, c2, rfl, rfl, _⟩ := id hr2
          clear hr2 hx2 HX1
          go_wp2_with fail
          refine (decode_any s w2 (by omega)).mono ?_
          rw [HD2.out]
          rintro e w3 ⟨v3, rfl, hr3, hx3⟩
          have HX3 := Lib.hid (HX2.out.trans hx3)
          have HR3 := Lib.hid hr3
          replace HR2 := Lib.hid (HR2.out.ext hx3)
          obtain ⟨A3, n3, c3, rfl, rfl, _⟩ := id hr3
          clear hr3 hx3 HX2
          go_upto_region 6 with fail
          go_quiet (fail)
          have hxt := Ext.drewN nq w3
          generalize w3.drewN nq = w4 at hxt ⊢
          have HX4 := Lib.hid (HX3.out.trans hxt)
          replace HR2 := Lib.hid (HR2.out.ext hxt)
          clear hxt HX3 HR3
          go_wp2_with fail
          refine (decode_any (t.extract 0 k) w4 (by omega)).mono ?_
          rw [HKD.out]
          rintro e w5 ⟨v5, rfl, _, hx5⟩
          have HX5 := Lib.hid (HX4.out.trans hx5)
          replace HR2 := Lib.hid (HR2.out.ext hx5)
          clear hx5 HX4
          go_wp2_with fail
          refine (litems_any _ l w5 HR2.out (by omega)).mono ?_
          rintro e wa ⟨ua, rfl, hua, hxa⟩
          have HXA := Lib.hid (HX5.out.trans hxa)
          have HUA := Lib.hid hua
          clear hxa hua
          go_wp2_with fail
          refine (litems_any _ l wa (HA.out.ext HXA.out) (by omega)).mono ?_
          rintro e wb ⟨ub, rfl, hub, hxb⟩
          have HXB := Lib.hid (HXA.out.trans hxb)
          have HUB := Lib.hid hub
          replace HUA := Lib.hid (HUA.out.ext hxb)
          clear hxb hub
          go_wp2_with fail
          refine (ralike_any _ _ _ _ wb HUA.out HUB.out).mono ?_
          rw [show decide (l = l) = true from decide_eq_true rfl]
          rintro e wc ⟨rfl, hxc⟩
          have HXC := Lib.hid (HXB.out.trans hxc)
          clear hxc
          go_wp2_with fail
          refine (known_any _).mono ?_
          rintro e wk ⟨rfl, hxk⟩
          have HXK := Lib.hid ((HXC.out).trans hxk)
          clear hxk
          go_wp2_with fail
          go_ret
          exact ⟨rfl, HXK.out⟩
      · have HRL := Lib.hid hr
        have ht0 : encB l = ⟨#[]⟩ := if_neg hr
        obtain ⟨t, ht⟩ : ∃ t, encB l = t := ⟨_, rfl⟩
        rw [ht] at ht0 ⊢
        have hte : (t.toList == []) = true := by rw [ht0, show (⟨#[]⟩ : ByteArray).toList = [] from toList_mk []]; rfl
        have htz : t.size ≤ 0 := by rw [ht0]; exact Nat.le_refl _
        have hbt : ¬ (9223372036854775807 < t.size + s.size) := by omega
        have hts : (t ++ s).size = t.size + s.size := by simp
        obtain ⟨D1, hD1⟩ : ∃ D, decR (t ++ s).toList = D := ⟨_, rfl⟩
        have HD1 := Lib.hid hD1
        clear hr ht0 ht hD1
        obtain ⟨d1, d2, d3⟩ := D1
        rcases decR_any s with ⟨b, m, hD2, hrb, hob, hm1, hm2, hbl, heq⟩ | hD2 | hD2
        · have HD2 := Lib.hid hD2
          clear hD2
          go_wp2_with fail
          refine (decode_any (t ++ s) w1 (by omega)).mono ?_
          rw [HD1.out]
          rintro e w2 ⟨v2, rfl, hr2, hx2⟩
          have HX2 := Lib.hid (HX1.out.trans hx2)
          have HR2 := Lib.hid hr2
          obtain ⟨A2, n2, c2, rfl, rfl, _⟩ := id hr2
          clear hr2 hx2 HX1
          go_wp2_with fail
          refine (decode_any s w2 (by omega)).mono ?_
          rw [HD2.out]
          rintro e w3 ⟨v3, rfl, hr3, hx3⟩
          have HX3 := Lib.hid (HX2.out.trans hx3)
          have HR3 := Lib.hid hr3
          replace HR2 := Lib.hid (HR2.out.ext hx3)
          obtain ⟨A3, n3, c3, rfl, rfl, _⟩ := id hr3
          clear hr3 hx3 HX2
          have HOB := Lib.hid hob
          have HEQ := Lib.hid heq
          have hm3 : ¬ (m : Int) < 1 := by omega
          have hm4 : decide ((m : Int) < 1) = false := decide_eq_false hm3
          have hm5 : decide ((s.size : Int) < (m : Int)) = false := decide_eq_false (by omega)
          have hm6 : (0 : Int) ≤ (m : Int) ∧ (m : Int) ≤ (s.size : Int) := by omega
          have hm7 : decide (s.size < m) = false := decide_eq_false (by omega)
          have hm8 : decide (m < 1) = false := decide_eq_false (by omega)
          have hmm : ((s.extract 0 m).toList != (s.extract 0 m).toList) = false := by simp
          clear hob heq
          go_upto_region 6 with fail
          refine wp_region_held_drew (S := fun _ => True) (by kernel_rfl) trivial (fun hHeld => ?_)
          have hxt : Ext w3 w3.drew := Ext.drew _
          generalize w3.drew = v1 at hxt hHeld ⊢
          refine' wpAnyH_take (i := 0) (oi := _) (v := _) ?hi67 ?hs67 ?hf67 ?hr67 ?hQ67 (Or.inl ⟨?hw67, ?hy67⟩) (by assumption) ?hrest67
          case hi67 => simp only [List.getElem?_toArray]; rfl
          case hs67 => kernel_rfl
          case hf67 => kernel_rfl
          case hr67 => kernel_rfl
          case hQ67 => exact fun _ _ _ h => h
          case hw67 => rfl
          case hy67 => intro w hSw; (try dsimp only at hSw); go_simp; try with_reducible rfl
          try simp only [Act.put, List.setIfInBounds_toArray, List.set_cons_zero, List.set_cons_succ]
          refine' wpAnyH_take (i := 1) (oi := _) (v := _) ?hi68 ?hs68 ?hf68 ?hr68 ?hQ68 (Or.inl ⟨?hw68, ?hy68⟩) (by assumption) ?hrest68
          case hi68 => simp only [List.getElem?_toArray]; rfl
          case hs68 => kernel_rfl
          case hf68 => kernel_rfl
          case hr68 => kernel_rfl
          case hQ68 => exact fun _ _ _ h => h
          case hw68 => rfl
          case hy68 => intro w hSw; (try dsimp only at hSw); go_simp; try with_reducible rfl
          try simp only [Act.put, List.setIfInBounds_toArray, List.set_cons_zero, List.set_cons_succ]
          refine' wpAnyH_take (i := 2) (oi := _) (v := _) ?hi69 ?hs69 ?hf69 ?hr69 ?hQ69 (Or.inl ⟨?hw69, ?hy69⟩) (by assumption) ?hrest69
          case hi69 => simp only [List.getElem?_toArray]; rfl
          case hs69 => kernel_rfl
          case hf69 => kernel_rfl
          case hr69 => kernel_rfl
          case hQ69 => exact fun _ _ _ h => h
          case hw69 => rfl
          case hy69 => intro w hSw; (try dsimp only at hSw); go_simp; try with_reducible rfl
          try simp only [Act.put, List.setIfInBounds_toArray, List.set_cons_zero, List.set_cons_succ]
          refine' wpAnyH_take (i := 3) (oi := _) (v := _) ?hi70 ?hs70 ?hf70 ?hr70 ?hQ70 (Or.inl ⟨?hw70, ?hy70⟩) (by assumption) ?hrest70
          case hi70 => simp only [List.getElem?_toArray]; rfl
          case hs70 => kernel_rfl
          case hf70 => kernel_rfl
          case hr70 => kernel_rfl
          case hQ70 => exact fun _ _ _ h => h
          case hw70 => rfl
          case hy70 => intro w hSw; (try dsimp only at hSw); go_simp; try with_reducible rfl
          try simp only [Act.put, List.setIfInBounds_toArray, List.set_cons_zero, List.set_cons_succ]
          refine' wpAnyH_take (i := 4) (oi := _) (v := _) ?hi71 ?hs71 ?hf71 ?hr71 ?hQ71 (Or.inl ⟨?hw71, ?hy71⟩) (by assumption) ?hrest71
          case hi71 => simp only [List.getElem?_toArray]; rfl
          case hs71 => kernel_rfl
          case hf71 => kernel_rfl
          case hr71 => kernel_rfl
          case hQ71 => exact fun _ _ _ h => h
          case hw71 => rfl
          case hy71 => intro w hSw; (try dsimp only at hSw); go_simp; try with_reducible rfl
          try simp only [Act.put, List.setIfInBounds_toArray, List.set_cons_zero, List.set_cons_succ]
          refine' wpAnyH_take (i := 5) (oi := _) (v := _) ?hi72 ?hs72 ?hf72 ?hr72 ?hQ72 (Or.inl ⟨?hw72, ?hy72⟩) (by assumption) ?hrest72
          case hi72 => simp only [List.getElem?_toArray]; rfl
          case hs72 => kernel_rfl
          case hf72 => kernel_rfl
          case hr72 => kernel_rfl
          case hQ72 => exact fun _ _ _ h => h
          case hw72 => rfl
          case hy72 => intro w hSw; (try dsimp only at hSw); go_simp; try with_reducible rfl
          try simp only [Act.put, List.setIfInBounds_toArray, List.set_cons_zero, List.set_cons_succ]
          refine' wpAnyH_take (i := 6) (oi := _) (v := _) ?hi73 ?hs73 ?hf73 ?hr73 ?hQ73 (Or.inl ⟨?hw73, ?hy73⟩) (by assumption) ?hrest73
          case hi73 => simp only [List.getElem?_toArray]; rfl
          case hs73 => kernel_rfl
          case hf73 => kernel_rfl
          case hr73 => kernel_rfl
          case hQ73 => exact fun _ _ _ h => h
          case hw73 => rfl
          case hy73 => intro w hSw; (try dsimp only at hSw); go_simp; try with_reducible rfl
          try simp only [Act.put, List.setIfInBounds_toArray, List.set_cons_zero, List.set_cons_succ]
          refine' wpAnyH_take (i := 7) (oi := _) (v := _) ?hi74 ?hs74 ?hf74 ?hr74 ?hQ74 (Or.inl ⟨?hw74, ?hy74⟩) (by assumption) ?hrest74
          case hi74 => simp only [List.getElem?_toArray]; rfl
          case hs74 => kernel_rfl
          case hf74 => kernel_rfl
          case hr74 => kernel_rfl
          case hQ74 => exact fun _ _ _ h => h
          case hw74 => rfl
          case hy74 => intro w hSw; (try dsimp only at hSw); go_simp; try with_reducible rfl
          try simp only [Act.put, List.setIfInBounds_toArray, List.set_cons_zero, List.set_cons_succ]
          refine' wpAnyH_take (i := 8) (oi := _) (v := _) ?hi75 ?hs75 ?hf75 ?hr75 ?hQ75 (Or.inl ⟨?hw75, ?hy75⟩) (by assumption) ?hrest75
          case hi75 => simp only [List.getElem?_toArray]; rfl
          case hs75 => kernel_rfl
          case hf75 => kernel_rfl
          case hr75 => kernel_rfl
          case hQ75 => exact fun _ _ _ h => h
          case hw75 => rfl
          case hy75 => intro w hSw; (try dsimp only at hSw); go_simp; try with_reducible rfl
          try simp only [Act.put, List.setIfInBounds_toArray, List.set_cons_zero, List.set_cons_succ]
          refine' wpAnyH_take (i := 9) (oi := _) (v := _) ?hi76 ?hs76 ?hf76 ?hr76 ?hQ76 (Or.inl ⟨?hw76, ?hy76⟩) (by assumption) ?hrest76
          case hi76 => simp only [List.getElem?_toArray]; rfl
          case hs76 => kernel_rfl
          case hf76 => kernel_rfl
          case hr76 => kernel_rfl
          case hQ76 => exact fun _ _ _ h => h
          case hw76 => rfl
          case hy76 => intro w hSw; (try dsimp only at hSw); go_simp; try with_reducible rfl
          try simp only [Act.put, List.setIfInBounds_toArray, List.set_cons_zero, List.set_cons_succ]
          refine' wpAnyH_take (i := 10) (oi := _) (v := _) ?hi77 ?hs77 ?hf77 ?hr77 ?hQ77 (Or.inl ⟨?hw77, ?hy77⟩) (by assumption) ?hrest77
          case hi77 => simp only [List.getElem?_toArray]; rfl
          case hs77 => kernel_rfl
          case hf77 => kernel_rfl
          case hr77 => kernel_rfl
          case hQ77 => exact fun _ _ _ h => h
          case hw77 => rfl
          case hy77 => intro w hSw; (try dsimp only at hSw); go_simp; try with_reducible rfl
          try simp only [Act.put, List.setIfInBounds_toArray, List.set_cons_zero, List.set_cons_succ]
          refine' wpAnyH_take (i := 11) (oi := _) (v := _) ?hi78 ?hs78 ?hf78 ?hr78 ?hQ78 (Or.inl ⟨?hw78, ?hy78⟩) (by assumption) ?hrest78
          case hi78 => simp only [List.getElem?_toArray]; rfl
          case hs78 => kernel_rfl
          case hf78 => kernel_rfl
          case hr78 => kernel_rfl
          case hQ78 => exact fun _ _ _ h => h
          case hw78 => rfl
          case hy78 => intro w hSw; (try dsimp only at hSw); go_simp; try with_reducible rfl
          try simp only [Act.put, List.setIfInBounds_toArray, List.set_cons_zero, List.set_cons_succ]
          refine' wpAnyH_take (i := 12) (oi := _) (v := _) ?hi79 ?hs79 ?hf79 ?hr79 ?hQ79 (Or.inl ⟨?hw79, ?hy79⟩) (by assumption) ?hrest79
          case hi79 => simp only [List.getElem?_toArray]; rfl
          case hs79 => kernel_rfl
          case hf79 => kernel_rfl
          case hr79 => kernel_rfl
          case hQ79 => exact fun _ _ _ h => h
          case hw79 => rfl
          case hy79 => intro w hSw; (try dsimp only at hSw); go_simp; try with_reducible rfl
          try simp only [Act.put, List.setIfInBounds_toArray, List.set_cons_zero, List.set_cons_succ]
          refine' wpAnyH_take (i := 14) (oi := _) (v := _) ?hi80 ?hs80 ?hf80 ?hr80 ?hQ80 (Or.inl ⟨?hw80, ?hy80⟩) (by assumption) ?hrest80
          case hi80 => simp only [List.getElem?_toArray]; rfl
          case hs80 => kernel_rfl
          case hf80 => kernel_rfl
          case hr80 => kernel_rfl
          case hQ80 => exact fun _ _ _ h => h
          case hw80 => rfl
          case hy80 => intro w hSw; (try dsimp only at hSw); go_simp; try with_reducible rfl
          try simp only [Act.put, List.setIfInBounds_toArray, List.set_cons_zero, List.set_cons_succ]
          refine' wpAnyH_take (i := 15) (oi := _) (v := _) ?hi81 ?hs81 ?hf81 ?hr81 ?hQ81 (Or.inl ⟨?hw81, ?hy81⟩) (by assumption) ?hrest81
          case hi81 => simp only [List.getElem?_toArray]; rfl
          case hs81 => kernel_rfl
          case hf81 => kernel_rfl
          case hr81 => kernel_rfl
          case hQ81 => exact fun _ _ _ h => h
          case hw81 => rfl
          case hy81 => intro w hSw; (try dsimp only at hSw); go_simp; try with_reducible rfl
          try simp only [Act.put, List.setIfInBounds_toArray, List.set_cons_zero, List.set_cons_succ]
          refine' wpAnyH_take (i := 16) (oi := _) (v := _) ?hi82 ?hs82 ?hf82 ?hr82 ?hQ82 (Or.inl ⟨?hw82, ?hy82⟩) (by assumption) ?hrest82
          case hi82 => simp only [List.getElem?_toArray]; rfl
          case hs82 => kernel_rfl
          case hf82 => kernel_rfl
          case hr82 => kernel_rfl
          case hQ82 => exact fun _ _ _ h => h
          case hw82 => rfl
          case hy82 => intro w hSw; (try dsimp only at hSw); go_simp; try with_reducible rfl
          try simp only [Act.put, List.setIfInBounds_toArray, List.set_cons_zero, List.set_cons_succ]
          refine wpAnyH_ready (rs := [13]) (by kernel_rfl) (by simp) ?_
          refine' AllReadyH.cons (o := _) ?ho83 (fun K hK => ?hstep83) AllReadyH.nil
          case ho83 => simp only [List.getElem?_toArray]; rfl
          go_simp
          refine (encode_any _ b v1 (HR3.out.ext hxt) HOB.out (by omega)).mono ?_
          rintro e w4 ⟨rfl, hx4⟩
          rw [HEQ.out]
          have hxt4 := hxt.trans hx4
          refine hK.out _ _ (trivial) (fun hHeld => ?_)
          clear hK K
          try simp only [Act.put, List.setIfInBounds_toArray, List.set_cons_zero, List.set_cons_succ]
          refine' wpAnyH_take (i := 17) (oi := _) (v := _) ?hi85 ?hs85 ?hf85 ?hr85 ?hQ85 (Or.inl ⟨?hw85, ?hy85⟩) (by assumption) ?hrest85
          case hi85 => simp only [List.getElem?_toArray]; rfl
          case hs85 => kernel_rfl
          case hf85 => kernel_rfl
          case hr85 => kernel_rfl
          case hQ85 => exact fun _ _ _ h => h
          case hw85 => rfl
          case hy85 => intro w hSw; (try dsimp only at hSw); go_simp; try with_reducible rfl
          try simp only [Act.put, List.setIfInBounds_toArray, List.set_cons_zero, List.set_cons_succ]
          refine' wpAnyH_take (i := 18) (oi := _) (v := _) ?hi86 ?hs86 ?hf86 ?hr86 ?hQ86 (Or.inl ⟨?hw86, ?hy86⟩) (by assumption) ?hrest86
          case hi86 => simp only [List.getElem?_toArray]; rfl
          case hs86 => kernel_rfl
          case hf86 => kernel_rfl
          case hr86 => kernel_rfl
          case hQ86 => exact fun _ _ _ h => h
          case hw86 => rfl
          case hy86 => intro w hSw; (try dsimp only at hSw); go_simp; try with_reducible rfl
          try simp only [Act.put, List.setIfInBounds_toArray, List.set_cons_zero, List.set_cons_succ]
          refine' wpAnyH_take (i := 19) (oi := _) (v := _) ?hi87 ?hs87 ?hf87 ?hr87 ?hQ87 (Or.inl ⟨?hw87, ?hy87⟩) (by assumption) ?hrest87
          case hi87 => simp only [List.getElem?_toArray]; rfl
          case hs87 => kernel_rfl
          case hf87 => kernel_rfl
          case hr87 => kernel_rfl
          case hQ87 => exact fun _ _ _ h => h
          case hw87 => rfl
          case hy87 => intro w hSw; (try dsimp only at hSw); go_simp; try with_reducible rfl
          try simp only [Act.put, List.setIfInBounds_toArray, List.set_cons_zero, List.set_cons_succ]
          refine' wpAnyH_take (i := 20) (oi := _) (v := _) ?hi88 ?hs88 ?hf88 ?hr88 ?hQ88 (Or.inl ⟨?hw88, ?hy88⟩) (by assumption) ?hrest88
          case hi88 => simp only [List.getElem?_toArray]; rfl
          case hs88 => kernel_rfl
          case hf88 => kernel_rfl
          case hr88 => kernel_rfl
          case hQ88 => exact fun _ _ _ h => h
          case hw88 => rfl
          case hy88 => intro w hSw; (try dsimp only at hSw); go_simp; try with_reducible rfl
          try simp only [Act.put, List.setIfInBounds_toArray, List.set_cons_zero, List.set_cons_succ]
          refine' wpAnyH_take (i := 21) (oi := _) (v := _) ?hi89 ?hs89 ?hf89 ?hr89 ?hQ89 (Or.inl ⟨?hw89, ?hy89⟩) (by assumption) ?hrest89
          case hi89 => simp only [List.getElem?_toArray]; rfl
          case hs89 => kernel_rfl
          case hf89 => kernel_rfl
          case hr89 => kernel_rfl
          case hQ89 => exact fun _ _ _ h => h
          case hw89 => rfl
          case hy89 => intro w hSw; (try dsimp only at hSw); go_simp; try with_reducible rfl
          try simp only [Act.put, List.setIfInBounds_toArray, List.set_cons_zero, List.set_cons_succ]
          refine' wpAnyH_take (i := 22) (oi := _) (v := _) ?hi90 ?hs90 ?hf90 ?hr90 ?hQ90 (Or.inl ⟨?hw90, ?hy90⟩) (by assumption) ?hrest90
          case hi90 => simp only [List.getElem?_toArray]; rfl
          case hs90 => kernel_rfl
          case hf90 => kernel_rfl
          case hr90 => kernel_rfl
          case hQ90 => exact fun _ _ _ h => h
          case hw90 => rfl
          case hy90 => intro w hSw; (try dsimp only at hSw); go_simp; try with_reducible rfl
          try simp only [Act.put, List.setIfInBounds_toArray, List.set_cons_zero, List.set_cons_succ]
          refine' wpAnyH_take (i := 23) (oi := _) (v := _) ?hi91 ?hs91 ?hf91 ?hr91 ?hQ91 (Or.inl ⟨?hw91, ?hy91⟩) (by assumption) ?hrest91
          case hi91 => simp only [List.getElem?_toArray]; rfl
          case hs91 => kernel_rfl
          case hf91 => kernel_rfl
          case hr91 => kernel_rfl
          case hQ91 => exact fun _ _ _ h => h
          case hw91 => rfl
          case hy91 => intro w hSw; (try dsimp only at hSw); go_simp; try with_reducible rfl
          try simp only [Act.put, List.setIfInBounds_toArray, List.set_cons_zero, List.set_cons_succ]
          refine' wpAnyH_take (i := 24) (oi := _) (v := undef) ?hi92 ?hs92 ?hf92 ?hr92 ?hQ92 (Or.inr ⟨?hw92, rfl⟩) (by assumption) ?hrest92
          case hi92 => simp only [List.getElem?_toArray]; rfl
          case hs92 => kernel_rfl
          case hf92 => kernel_rfl
          case hr92 => kernel_rfl
          case hQ92 => exact fun _ _ _ h => h
          case hw92 => rfl
          try simp only [Act.put, List.setIfInBounds_toArray, List.set_cons_zero, List.set_cons_succ]
          refine' wpAnyH_take (i := 25) (oi := _) (v := undef) ?hi93 ?hs93 ?hf93 ?hr93 ?hQ93 (Or.inr ⟨?hw93, rfl⟩) (by assumption) ?hrest93
          case hi93 => simp only [List.getElem?_toArray]; rfl
          case hs93 => kernel_rfl
          case hf93 => kernel_rfl
          case hr93 => kernel_rfl
          case hQ93 => exact fun _ _ _ h => h
          case hw93 => rfl
          try simp only [Act.put, List.setIfInBounds_toArray, List.set_cons_zero, List.set_cons_succ]
          refine' wpAnyH_take (i := 26) (oi := _) (v := undef) ?hi94 ?hs94 ?hf94 ?hr94 ?hQ94 (Or.inr ⟨?hw94, rfl⟩) (by assumption) ?hrest94
          case hi94 => simp only [List.getElem?_toArray]; rfl
          case hs94 => kernel_rfl
          case hf94 => kernel_rfl
          case hr94 => kernel_rfl
          case hQ94 => exact fun _ _ _ h => h
          case hw94 => rfl
          try simp only [Act.put, List.setIfInBounds_toArray, List.set_cons_zero, List.set_cons_succ]
          refine' wpAnyH_take (i := 27) (oi := _) (v := undef) ?hi95 ?hs95 ?hf95 ?hr95 ?hQ95 (Or.inr ⟨?hw95, rfl⟩) (by assumption) ?hrest95
          case hi95 => simp only [List.getElem?_toArray]; rfl
          case hs95 => kernel_rfl
          case hf95 => kernel_rfl
          case hr95 => kernel_rfl
          case hQ95 => exact fun _ _ _ h => h
          case hw95 => rfl
          try simp only [Act.put, List.setIfInBounds_toArray, List.set_cons_zero, List.set_cons_succ]
          refine' wpAnyH_take (i := 28) (oi := _) (v := undef) ?hi96 ?hs96 ?hf96 ?hr96 ?hQ96 (Or.inr ⟨?hw96, rfl⟩) (by assumption) ?hrest96
          case hi96 => simp only [List.getElem?_toArray]; rfl
          case hs96 => kernel_rfl
          case hf96 => kernel_rfl
          case hr96 => kernel_rfl
          case hQ96 => exact fun _ _ _ h => h
          case hw96 => rfl
          try simp only [Act.put, List.setIfInBounds_toArray, List.set_cons_zero, List.set_cons_succ]
          refine' wpAnyH_take (i := 29) (oi := _) (v := undef) ?hi97 ?hs97 ?hf97 ?hr97 ?hQ97 (Or.inr ⟨?hw97, rfl⟩) (by assumption) ?hrest97
          case hi97 => simp only [List.getElem?_toArray]; rfl
          case hs97 => kernel_rfl
          case hf97 => kernel_rfl
          case hr97 => kernel_rfl
          case hQ97 => exact fun _ _ _ h => h
          case hw97 => rfl
          try simp only [Act.put, List.setIfInBounds_toArray, List.set_cons_zero, List.set_cons_succ]
          refine' wpAnyH_take (i := 30) (oi := _) (v := undef) ?hi98 ?hs98 ?hf98 ?hr98 ?hQ98 (Or.inr ⟨?hw98, rfl⟩) (by assumption) ?hrest98
          case hi98 => simp only [List.getElem?_toArray]; rfl
          case hs98 => kernel_rfl
          case hf98 => kernel_rfl
          case hr98 => kernel_rfl
          case hQ98 => exact fun _ _ _ h => h
          case hw98 => rfl
          try simp only [Act.put, List.setIfInBounds_toArray, List.set_cons_zero, List.set_cons_succ]
          refine' wpAnyH_take (i := 31) (oi := _) (v := undef) ?hi99 ?hs99 ?hf99 ?hr99 ?hQ99 (Or.inr ⟨?hw99, rfl⟩) (by assumption) ?hrest99
          case hi99 => simp only [List.getElem?_toArray]; rfl
          case hs99 => kernel_rfl
          case hf99 => kernel_rfl
          case hr99 => kernel_rfl
          case hQ99 => exact fun _ _ _ h => h
          case hw99 => rfl
          try simp only [Act.put, List.setIfInBounds_toArray, List.set_cons_zero, List.set_cons_succ]
          refine' wpAnyH_take (i := 32) (oi := _) (v := undef) ?hi100 ?hs100 ?hf100 ?hr100 ?hQ100 (Or.inr ⟨?hw100, rfl⟩) (by assumption) ?hrest100
          case hi100 => simp only [List.getElem?_toArray]; rfl
          case hs100 => kernel_rfl
          case hf100 => kernel_rfl
          case hr100 => kernel_rfl
          case hQ100 => exact fun _ _ _ h => h
          case hw100 => rfl
          try simp only [Act.put, List.setIfInBounds_toArray, List.set_cons_zero, List.set_cons_succ]
          refine' wpAnyH_take (i := 33) (oi := _) (v := undef) ?hi101 ?hs101 ?hf101 ?hr101 ?hQ101 (Or.inr ⟨?hw101, rfl⟩) (by assumption) ?hrest101
          case hi101 => simp only [List.getElem?_toArray]; rfl
          case hs101 => kernel_rfl
          case hf101 => kernel_rfl
          case hr101 => kernel_rfl
          case hQ101 => exact fun _ _ _ h => h
          case hw101 => rfl
          try simp only [Act.put, List.setIfInBounds_toArray, List.set_cons_zero, List.set_cons_succ]
          refine' wpAnyH_take (i := 34) (oi := _) (v := undef) ?hi102 ?hs102 ?hf102 ?hr102 ?hQ102 (Or.inr ⟨?hw102, rfl⟩) (by assumption) ?hrest102
          case hi102 => simp only [List.getElem?_toArray]; rfl
          case hs102 => kernel_rfl
          case hf102 => kernel_rfl
          case hr102 => kernel_rfl
          case hQ102 => exact fun _ _ _ h => h
          case hw102 => rfl
          try simp only [Act.put, List.setIfInBounds_toArray, List.set_cons_zero, List.set_cons_succ]
          refine' wpAnyH_take (i := 35) (oi := _) (v := undef) ?hi103 ?hs103 ?hf103 ?hr103 ?hQ103 (Or.inr ⟨?hw103, rfl⟩) (by assumption) ?hrest103
          case hi103 => simp only [List.getElem?_toArray]; rfl
          case hs103 => kernel_rfl
          case hf103 => kernel_rfl
          case hr103 => kernel_rfl
          case hQ103 => exact fun _ _ _ h => h
          case hw103 => rfl
          try simp only [Act.put, List.setIfInBounds_toArray, List.set_cons_zero, List.set_cons_succ]
          refine' wpAnyH_take (i := 36) (oi := _) (v := undef) ?hi104 ?hs104 ?hf104 ?hr104 ?hQ104 (Or.inr ⟨?hw104, rfl⟩) (by assumption) ?hrest104
          case hi104 => simp only [List.getElem?_toArray]; rfl
          case hs104 => kernel_rfl
          case hf104 => kernel_rfl
          case hr104 => kernel_rfl
          case hQ104 => exact fun _ _ _ h => h
          case hw104 => rfl
          try simp only [Act.put, List.setIfInBounds_toArray, List.set_cons_zero, List.set_cons_succ]
          refine' wpAnyH_take (i := 37) (oi := _) (v := undef) ?hi105 ?hs105 ?hf105 ?hr105 ?hQ105 (Or.inr ⟨?hw105, rfl⟩) (by assumption) ?hrest105
          case hi105 => simp only [List.getElem?_toArray]; rfl
          case hs105 => kernel_rfl
          case hf105 => kernel_rfl
          case hr105 => kernel_rfl
          case hQ105 => exact fun _ _ _ h => h
          case hw105 => rfl
          try simp only [Act.put, List.setIfInBounds_toArray, List.set_cons_zero, List.set_cons_succ]
          refine' wpAnyH_take (i := 38) (oi := _) (v := undef) ?hi106 ?hs106 ?hf106 ?hr106 ?hQ106 (Or.inr ⟨?hw106, rfl⟩) (by assumption) ?hrest106
          case hi106 => simp only [List.getElem?_toArray]; rfl
          case hs106 => kernel_rfl
          case hf106 => kernel_rfl
          case hr106 => kernel_rfl
          case hQ106 => exact fun _ _ _ h => h
          case hw106 => rfl
          try simp only [Act.put, List.setIfInBounds_toArray, List.set_cons_zero, List.set_cons_succ]
          refine' wpAnyH_take (i := 39) (oi := _) (v := _) ?hi107 ?hs107 ?hf107 ?hr107 ?hQ107 (Or.inl ⟨?hw107, ?hy107⟩) (by assumption) ?hrest107
          case hi107 => simp only [List.getElem?_toArray]; rfl
          case hs107 => kernel_rfl
          case hf107 => kernel_rfl
          case hr107 => kernel_rfl
          case hQ107 => exact fun _ _ _ h => h
          case hw107 => rfl
          case hy107 => intro w hSw; (try dsimp only at hSw); go_simp; try with_reducible rfl
          try simp only [Act.put, List.setIfInBounds_toArray, List.set_cons_zero, List.set_cons_succ]
          refine' wpAnyH_take (i := 40) (oi := _) (v := _) ?hi108 ?hs108 ?hf108 ?hr108 ?hQ108 (Or.inl ⟨?hw108, ?hy108⟩) (by assumption) ?hrest108
          case hi108 => simp only [List.getElem?_toArray]; rfl
          case hs108 => kernel_rfl
          case hf108 => kernel_rfl
          case hr108 => kernel_rfl
          case hQ108 => exact fun _ _ _ h => h
          case hw108 => rfl
          case hy108 => intro w hSw; (try dsimp only at hSw); go_simp; try with_reducible rfl
          try simp only [Act.put, List.setIfInBounds_toArray, List.set_cons_zero, List.set_cons_succ]
          refine wpAnyH_done (by kernel_rfl) ?_ _
          have HX4 := Lib.hid (HX3.out.trans hxt4)
          replace HR2 := Lib.hid (HR2.out.ext hxt4)
          clear hxt hx4 hxt4 HX3 HR3 hm3 hm4 hm5 hm6 hm7 hm8 hmm hHeld
          go_wp2_with fail
          refine (Right_any _ l w4 (HA.out.ext HX4.out) HOA.out (by omega)).mono ?_
          rw [decide_eq_false HRL.out]
          rintro e w5 ⟨rfl, hx5⟩
          have HX5 := Lib.hid (HX4.out.trans hx5)
          clear hx5 HX4
          go_wp2_with fail
          refine (known_any _).mono ?_
          rintro e wk ⟨rfl, hxk⟩
          have HXK := Lib.hid ((HX5.out).trans hxk)
          clear hxk
          go_wp2_with fail
          go_ret
          exact ⟨rfl, HXK.out⟩
        · have HD2 := Lib.hid hD2
          clear hD2
          go_wp2_with fail
          refine (decode_any (t ++ s) w1 (by omega)).mono ?_
          rw [HD1.out]
          rintro e w2 ⟨v2, rfl, hr2, hx2⟩
          have HX2 := Lib.hid (HX1.out.trans hx2)
          have HR2 := Lib.hid hr2
          obtain ⟨A2, n2, c2, rfl, rfl, _⟩ := id hr2
          clear hr2 hx2 HX1
          go_wp2_with fail
          refine (decode_any s w2 (by omega)).mono ?_
          rw [HD2.out]
          rintro e w3 ⟨v3, rfl, hr3, hx3⟩
          have HX3 := Lib.hid (HX2.out.trans hx3)
          have HR3 := Lib.hid hr3
          replace HR2 := Lib.hid (HR2.out.ext hx3)
          obtain ⟨A3, n3, c3, rfl, rfl, _⟩ := id hr3
          clear hr3 hx3 HX2
          go_upto_region 6 with fail
          go_quiet (fail)
          have hxt := Ext.drewN nq w3
          generalize w3.drewN nq = w4 at hxt ⊢
          have HX4 := Lib.hid (HX3.out.trans hxt)
          replace HR2 := Lib.hid (HR2.out.ext hxt)
          clear hxt HX3 HR3
          go_wp2_with fail
          refine (Right_any _ l w4 (HA.out.ext HX4.out) HOA.out (by omega)).mono ?_
          rw [decide_eq_false HRL.out]
          rintro e w5 ⟨rfl, hx5⟩
          have HX5 := Lib.hid (HX4.out.trans hx5)
          clear hx5 HX4
          go_wp2_with fail
          refine (known_any _).mono ?_
          rintro e wk ⟨rfl, hxk⟩
          have HXK := Lib.hid ((HX5.out).trans hxk)
          clear hxk
          go_wp2_with fail
          go_ret
          exact ⟨rfl, HXK.out⟩
        · have HD2 := Lib.hid hD2
          clear hD2
          go_wp2_with fail
          refine (decode_any (t ++ s) w1 (by omega)).mono ?_
          rw [HD1.out]
          rintro e w2 ⟨v2, rfl, hr2, hx2⟩
          have HX2 := Lib.hid (HX1.out.trans hx2)
          have HR2 := Lib.hid hr2
          obtain ⟨A2, n2, c2, rfl, rfl, _⟩ := id hr2
          clear hr2 hx2 HX1
          go_wp2_with fail
          refine (decode_any s w2 (by omega)).mono ?_
          rw [HD2.out]
          rintro e w3 ⟨v3, rfl, hr3, hx3⟩
          have HX3 := Lib.hid (HX2.out.trans hx3)
          have HR3 := Lib.hid hr3
          replace HR2 := Lib.hid (HR2.out.ext hx3)
          obtain ⟨A3, n3, c3, rfl, rfl, _⟩ := id hr3
          clear hr3 hx3 HX2
          go_upto_region 6 with fail
          go_quiet (fail)
          have hxt := Ext.drewN nq w3
          generalize w3.drewN nq = w4 at hxt ⊢
          have HX4 := Lib.hid (HX3.out.trans hxt)
          replace HR2 := Lib.hid (HR2.out.ext hxt)
          clear hxt HX3 HR3
          go_wp2_with fail
          refine (Right_any _ l w4 (HA.out.ext HX4.out) HOA.out (by omega)).mono ?_
          rw [decide_eq_false HRL.out]
          rintro e w5 ⟨rfl, hx5⟩
          have HX5 := Lib.hid (HX4.out.trans hx5)
          clear hx5 HX4
          go_wp2_with fail
          refine (known_any _).mono ?_
          rintro e wk ⟨rfl, hxk⟩
          have HXK := Lib.hid ((HX5.out).trans hxk)
          clear hxk
          go_wp2_with fail
          go_ret
          exact ⟨rfl, HXK.out⟩
    · have h2B : decide ((1000 : Int) < (s.size : Int)) = true := decide_eq_true (by omega)
      have h2C : decide (1000 < s.size) = true := decide_eq_true (by omega)
      go_enter Try.func6, Try.ntmps6
      go_wp2_with fail
      refine (known_any _).mono ?_
      rintro e wk ⟨rfl, hxk⟩
      have HXK := Lib.hid ((Ext.refl w).trans hxk)
      clear hxk
      go_wp2_with fail
      go_ret
      exact ⟨rfl, HXK.out⟩
  · have h1B : decide ((40 : Int) < (l.length : Int)) = true := decide_eq_true (by omega)
    have h1C : decide (40 < l.length) = true := decide_eq_true (by omega)
    go_enter Try.func6, Try.ntmps6
    go_wp2_with fail
    refine (known_any _).mono ?_
    rintro e wk ⟨rfl, hxk⟩
    have HXK := Lib.hid ((Ext.refl w).trans hxk)
    clear hxk
    go_wp2_with fail
    go_ret
    exact ⟨rfl, HXK.out⟩
end Go.Proofs.Ytdbboooblbdihaa
