/- The document's lists of texts: Right, Has, Same, Add walked. -/
import Derived.Test.YtccjbmmhdbainaaSetB
import Derived.Test.YtccjbmmhdbainaaSetA
namespace Go.Proofs.Ytccjbmmhdbainaa
open Go.RowKit Sets
set_option maxRecDepth 100000

/-- No text of the list is longer than a text can be. -/
def Fit (xs : List ByteArray) : Prop := ∀ s ∈ xs, s.size ≤ 9223372036854775807
theorem Fit.at_ {xs : List ByteArray} (h : Fit xs) (k : Nat) (hk : k < xs.length) : (xs.getD k ByteArray.empty).size ≤ 9223372036854775807 := by
  rw [List.getD_eq_getElem?_getD, List.getElem?_eq_getElem hk]
  exact h _ (List.getElem_mem hk)


set_option maxHeartbeats 400000 in
theorem rhas_txt (v : Value) (xs : List ByteArray) (s : ByteArray) (w : World) (h : Txt w v xs) :
    Calls Try.prog 37 #[v, .string s] w fun e w' => e = .returned (.bool (hasB xs s)) ∧ w = w' := by
  obtain ⟨A, n, c, rfl, h1, h2, h3, h4⟩ := h
  have HN := Lib.hid h1
  clear h1
  go_enter Try.func37, Try.ntmps37
  go_wp2
  go_loop [5] (fun i => ∃ k : Nat, k ≤ n ∧ i = .int .i64 k ∧ Hid (hasB (xs.take k) s = false)) (fun i => n - (intOf i).toNat)
  case atStart => exact ⟨0, Nat.zero_le _, rfl, by simp [Hid, hasB]⟩
  case round =>
    obtain ⟨k, hk, rfl, HH⟩ := hrel
    by_cases hlt : k < n
    · obtain ⟨ad, rfl, hc⟩ := h4.some_ (by rw [List.length_map, HN.out]; omega)
      have hc1 := hc k _ (txt_get xs k (by rw [HN.out]; exact hlt))
      have hstep := hasB_take xs s k (by rw [HN.out]; exact hlt)
      generalize xs.getD k ByteArray.empty = x at hc1 hstep
      have HS := Lib.hid hstep
      clear hstep hc
      by_cases hx : x = s
      · subst hx
        go_wp2
        go_ret
        refine ⟨ret_bool ?_, rfl⟩
        rw [hasB_of]
        have h5 : hasB (xs.take (k + 1)) x = true := by rw [HS.out]; simp
        exact List.mem_of_mem_take ((hasB_iff _ _).1 h5)
      · have h5 : (x.toList == s.toList) = false := by
          rw [beq_eq_false_iff_ne]
          exact fun h => hx (text_ext h)
        have HX := Lib.hid hx
        clear hx
        go_wp2
        go_round
        case rel => exact ⟨k + 1, by omega, by go_num, by unfold Hid; rw [HS.out, HH.out]; simp [HX.out]⟩
        case measure => simp [intOf]; omega
    · go_wp2
      go_ret
      refine ⟨ret_bool ?_, rfl⟩
      have := HH.out
      rw [List.take_of_length_le (by rw [HN.out]; omega)] at this
      rw [this]

/-- Are two lists alike? -/
def sameB (xs ys : List ByteArray) : Bool := decide (xs = ys)
def sameTo (xs ys : List ByteArray) (k : Nat) : Prop := xs.take k = ys.take k

theorem take_step (xs : List ByteArray) (k : Nat) (h : k < xs.length) : xs.take (k + 1) = xs.take k ++ [xs.getD k ByteArray.empty] := by
  rw [List.take_succ_eq_append_getElem h]; simp [List.getD_eq_getElem?_getD, List.getElem?_eq_getElem h]
theorem drop_step (xs : List ByteArray) (k : Nat) (h : k < xs.length) : xs.drop k = xs.getD k ByteArray.empty :: xs.drop (k + 1) := by
  rw [List.drop_eq_getElem_cons h]; simp [List.getD_eq_getElem?_getD, List.getElem?_eq_getElem h]

theorem ne_of_getD {xs ys : List ByteArray} {k : Nat} (h : xs.getD k ByteArray.empty ≠ ys.getD k ByteArray.empty) : xs ≠ ys := by
  rintro rfl; exact h rfl

set_option maxHeartbeats 400000 in
theorem same_txt (va vb : Value) (xs ys : List ByteArray) (w : World) (ha : Txt w va xs) (hb : Txt w vb ys) :
    Calls Try.prog 27 #[va, vb] w fun e w' => e = .returned (.bool (sameB xs ys)) ∧ ∃ q, w' = w.drewN q := by
  obtain ⟨A, n, c, rfl, h1, h2, h3, h4⟩ := ha
  obtain ⟨B, m, d, rfl, g1, g2, g3, g4⟩ := hb
  have HN := Lib.hid (And.intro h1 g1)
  have HR := Lib.hid (And.intro h4 g4)
  clear h1 g1 h4 g4
  by_cases hnm : n = m
  · subst hnm
    have : ((n : Int) != (n : Int)) = false := by simp
    go_enter Try.func27, Try.ntmps27
    go_wp2
    go_loopw [5] (fun i wr => ∃ k q : Nat, k ≤ n ∧ i = .int .i64 k ∧ wr = w.drewN q ∧ Hid (sameTo xs ys k)) (fun i _ => n - (intOf i).toNat)
    case atStart => exact ⟨0, 0, by omega, rfl, rfl, rfl⟩
    case round =>
      obtain ⟨k, q, hk, rfl, rfl, HU⟩ := hrel
      by_cases hlt : k < n
      · obtain ⟨ad, rfl, hc⟩ := HR.out.1.some_ (by rw [List.length_map, HN.out.1]; omega)
        obtain ⟨bd, rfl, hd⟩ := HR.out.2.some_ (by rw [List.length_map, HN.out.2]; omega)
        have hc1 := hc k _ (txt_get xs k (by rw [HN.out.1]; omega))
        have hd1 := hd k _ (txt_get ys k (by rw [HN.out.2]; omega))
        generalize hs1 : xs.getD k ByteArray.empty = s1 at hc1
        generalize hs2 : ys.getD k ByteArray.empty = s2 at hd1
        have H1 := Lib.hid hs1
        have H2 := Lib.hid hs2
        clear hs1 hs2 hc hd
        have : (0 : Int) ≤ (k : Int) := by omega
        have : (k : Int) < (n : Int) := by omega
        by_cases hx : s1 = s2
        · subst hx
          have : (s1.toList == s1.toList) = true := by simp
          go_wp2_with fail
          go_quiet (fail)
          go_wp2
          go_roundw
          case rel =>
            refine ⟨k + 1, _, by omega, by go_num, rfl, ?_⟩
            unfold Hid sameTo
            rw [take_step _ _ (by rw [HN.out.1]; omega), take_step _ _ (by rw [HN.out.2]; omega), HU.out, H1.out, H2.out]
          case measure => simp [intOf]; omega
        · have h5 : (s1.toList == s2.toList) = false := by
            rw [beq_eq_false_iff_ne]
            exact fun h => hx (text_ext h)
          have HX := Lib.hid hx
          clear hx
          go_wp2_with fail
          go_quiet (fail)
          go_wp2
          go_ret
          refine ⟨ret_bool ?_, (by simp only [World.drewN_drewN]; exact ⟨_, rfl⟩)⟩
          unfold sameB
          rw [decide_eq_false]
          exact ne_of_getD (k := k) (by rw [H1.out, H2.out]; exact HX.out)
      · go_wp2
        go_ret
        refine ⟨ret_bool ?_, _, rfl⟩
        have := HU.out
        unfold sameTo at this
        rw [List.take_of_length_le (by rw [HN.out.1]; omega), List.take_of_length_le (by rw [HN.out.2]; omega)] at this
        simp [sameB, this]
  · have : ((n : Int) != (m : Int)) = true := by rw [bne_iff_ne]; omega
    have HX := Lib.hid hnm
    clear hnm
    go_enter Try.func27, Try.ntmps27
    go_wp2
    go_ret
    refine ⟨ret_bool ?_, 0, rfl⟩
    unfold sameB
    rw [decide_eq_false]
    rintro rfl
    exact HX.out (HN.out.1.symm.trans HN.out.2)

theorem same_yes (va vb : Value) (xs ys : List ByteArray) (w : World) (ha : Txt w va xs) (hb : Txt w vb ys) (h : xs = ys) :
    Calls Try.prog 27 #[va, vb] w fun e w' => e = .returned (.bool true) ∧ Ext w w' := by
  refine (same_txt va vb xs ys w ha hb).mono ?_
  rintro e w' ⟨rfl, q, rfl⟩
  exact ⟨by simp [sameB, h], Ext.drewN _ _⟩

theorem addL_at : ∀ (xs : List ByteArray) (s : ByteArray) (k : Nat), k ≤ xs.length → (∀ j, j < k → ltB (xs.getD j ByteArray.empty) s = true) → addL xs s = xs.take k ++ addL (xs.drop k) s
  | xs, s, 0, _, _ => by simp
  | [], s, k + 1, h, _ => by simp at h
  | a :: l, s, k + 1, h, hj => by
    have h0 : ltB a s = true := by have := hj 0 (by omega); simpa using this
    rw [addL, if_pos h0, addL_at l s k (by simpa using h) (fun j hk => by have := hj (j + 1) (by omega); simpa using this)]
    simp

def allLt (xs : List ByteArray) (s : ByteArray) (k : Nat) : Prop := ∀ j, j < k → ltB (xs.getD j ByteArray.empty) s = true
theorem allLt_step {xs : List ByteArray} {s x : ByteArray} {k : Nat} (h : allLt xs s k) (hx : xs.getD k ByteArray.empty = x) (hl : ltB x s = true) : allLt xs s (k + 1) := by
  intro j hj
  rcases Nat.lt_or_ge j k with h' | h'
  · exact h j h'
  · obtain rfl : j = k := by omega
    rw [hx]; exact hl


set_option maxHeartbeats 1000000 in
theorem radd_txt (v : Value) (xs : List ByteArray) (s : ByteArray) (w : World) (h : Txt w v xs) (hf : Fit (s :: xs)) (hlen : xs.length ≤ 4294967296) :
    Calls Try.prog 65 #[v, .string s] w fun e w' => ∃ u, e = .returned u ∧ Txt w' u (addL xs s) ∧ Ext w w' := by
  obtain ⟨i0, hi0, hz0, hz1, hz2⟩ := info_parts Try.strInfo
  obtain ⟨A, n, c, rfl, h1, h2, h3, h4⟩ := h
  have hbn : n ≤ 4294967296 := by omega
  have HN := Lib.hid h1
  have HR := Lib.hid h4
  have HF := Lib.hid (show Fit xs from fun x hx => hf x (by simp [hx]))
  have hfs := hf s (by simp)
  clear h1 h4 hf hlen
  go_enter Try.func65, Try.ntmps65
  go_wp2
  go_loopw [5, 6] (fun o i wr => ∃ (k : Nat), k ≤ n ∧ i = .int .i64 k ∧ Own w wr o (xs.take k) ∧ Ext w wr ∧ Hid (allLt xs s k)) (fun _ i _ => n - (intOf i).toNat)
  case atStart => exact ⟨0, by omega, rfl, Own.nil _ _, Ext.refl _, fun j hj => by omega⟩
  case round =>
    obtain ⟨k, hk, rfl, hown, hext, HU⟩ := hrel
    have hlk : (xs.take k).length = k := by rw [List.length_take, HN.out]; omega
    have HLK := Lib.hid hlk
    clear hlk
    by_cases hlt : k < n
    · obtain ⟨ad, rfl, _⟩ := HR.out.some_ (by rw [List.length_map, HN.out]; omega)
      obtain ⟨ad', e', hc⟩ := (HR.out.ext hext).some_ (by rw [List.length_map, HN.out]; omega)
      cases e'
      have hc1 := hc k _ (txt_get xs k (by rw [HN.out]; exact hlt))
      have hf1 := HF.out.at_ k (by rw [HN.out]; exact hlt)
      generalize hx : xs.getD k ByteArray.empty = x at hc1 hf1
      have HX := Lib.hid hx
      clear hc hx
      have : (0 : Int) ≤ (k : Int) := by omega
      have : (k : Int) < (n : Int) := by omega
      cases hb : ltB x s with
      | true =>
        have HB := Lib.hid hb
        clear hb
        go_wp2_with (first
          | (go_at_call 56; refine (below_yes x s HB.out _ hf1 hfs).mono ?_; rintro e w1 ⟨rfl, q, rfl⟩)
          | (at_builtin
             refine app_strs _ rfl (.tmp 19) (.tmp 24) rfl w _ (xs.take k) rfl (by exact Own.alloc (w := World.drewN _ _) hown _) (some ⟨wr.heap.size, 0, none⟩) 1 1 [x] rfl rfl (Rd.new (World.drewN wr _) #[.string x] 9) (by rw [HLK.out]; simp; omega) (by exact Ext.alloc_ (Ext.drewN_ hext _) _) ?_
             intro v1 w1 hown1 hext1
             clear hown hext hc1))
        go_roundw
        case rel =>
          refine ⟨k + 1, by omega, by go_num, ?_, hext1, allLt_step HU.out HX.out HB.out⟩
          rw [take_step _ _ (by rw [HN.out]; omega), HX.out]
          exact hown1
        case measure => simp [intOf]; omega
      | false =>
        obtain ⟨A2, hA2, hsl2⟩ := cut_from (P := Try.prog) (w := w) 22 9 i0 1 Try.underlying22 hi0 hz1 HR.out (by rw [List.length_map, HN.out]; omega) h2 k (k : Int) rfl (by omega)
        obtain ⟨A3, hA3, hsl3⟩ := cut_from (P := Try.prog) (w := w) 22 9 i0 1 Try.underlying22 hi0 hz1 HR.out (by rw [List.length_map, HN.out]; omega) h2 (k + 1) ((k : Int) + 1) rfl (by omega)
        rw [Nat.mul_one, ← List.map_drop] at hA2 hA3
        have HA2 := Lib.hid hA2
        have HA3 := Lib.hid hA3
        clear hA2 hA3
        have HB := Lib.hid hb
        clear hb
        by_cases hxs : x = s
        · subst hxs
          have hfin : addL xs x = xs.take k ++ x :: xs.drop (k + 1) := by
            rw [addL_at xs x k (by rw [HN.out]; omega) HU.out, drop_step xs k (by rw [HN.out]; omega), HX.out, addL, if_neg (by rw [lt_irrefl]; simp), if_pos rfl]
          have HFIN := Lib.hid hfin
          clear hfin
          have hee : (x.toList == x.toList) = true := by simp
          go_wp2_with (first
            | (go_at_call 56; refine (below_no x x HB.out _ hf1 hfs).mono ?_; rintro e w1 ⟨rfl, q, rfl⟩)
            | (at_builtin
               refine app_strs _ rfl (.tmp 28) (.tmp 30) rfl w _ (xs.take k) rfl (by exact Own.alloc (w := World.drewN _ _) hown _) (some ⟨wr.heap.size, 0, none⟩) 1 1 [x] rfl rfl (Rd.new (World.drewN wr _) #[.string x] 9) (by rw [HLK.out]; simp; omega) (by exact Ext.alloc_ (Ext.drewN_ hext _) _) ?_
               intro v1 w1 hown1 hext1
               have hc2 : w1.cell? (ad.add k) = some (.string x) := by
                 obtain ⟨ad', e', hc⟩ := (HR.out.ext hext1).some_ (by rw [List.length_map, HN.out]; omega)
                 cases e'
                 rw [← HX.out]
                 exact hc k _ (txt_get xs k (by rw [HN.out]; exact hlt)))
            | (at_builtin
               refine app_strs _ rfl (.tmp 46) (.tmp 49) rfl w _ (xs.take k ++ [x]) rfl (by exact hown1) A3 (n - (k + 1)) (c - (k + 1)) (xs.drop (k + 1)) rfl (by rw [List.length_drop, HN.out]) (by exact HA3.out.ext hext1) (by rw [List.length_append, HLK.out, List.length_drop, HN.out]; simp; omega) (by exact hext1) ?_
               intro v2 w2 hown2 hext2))
          go_ret
          refine ⟨v2, rfl, ?_, hext2⟩
          rw [HFIN.out]
          simpa using hown2.txt
        · have hfin : addL xs s = xs.take k ++ s :: xs.drop k := by
            rw [addL_at xs s k (by rw [HN.out]; omega) HU.out, drop_step xs k (by rw [HN.out]; omega), HX.out, addL, if_neg (by rw [HB.out]; simp), if_neg hxs]
          have HFIN := Lib.hid hfin
          clear hfin
          have hee : (x.toList == s.toList) = false := by
            rw [beq_eq_false_iff_ne]
            exact fun h => hxs (text_ext h)
          clear hxs
          go_wp2_with (first
            | (go_at_call 56; refine (below_no x s HB.out _ hf1 hfs).mono ?_; rintro e w1 ⟨rfl, q, rfl⟩)
            | (at_builtin
               refine app_strs _ rfl (.tmp 28) (.tmp 30) rfl w _ (xs.take k) rfl (by exact Own.alloc (w := World.drewN _ _) hown _) (some ⟨wr.heap.size, 0, none⟩) 1 1 [s] rfl rfl (Rd.new (World.drewN wr _) #[.string s] 9) (by rw [HLK.out]; simp; omega) (by exact Ext.alloc_ (Ext.drewN_ hext _) _) ?_
               intro v1 w1 hown1 hext1
               have hc2 : w1.cell? (ad.add k) = some (.string x) := by
                 obtain ⟨ad', e', hc⟩ := (HR.out.ext hext1).some_ (by rw [List.length_map, HN.out]; omega)
                 cases e'
                 rw [← HX.out]
                 exact hc k _ (txt_get xs k (by rw [HN.out]; exact hlt)))
            | (at_builtin
               refine app_strs _ rfl (.tmp 46) (.tmp 49) rfl w _ (xs.take k ++ [s]) rfl (by exact hown1) A2 (n - k) (c - k) (xs.drop k) rfl (by rw [List.length_drop, HN.out]) (by exact HA2.out.ext hext1) (by rw [List.length_append, HLK.out, List.length_drop, HN.out]; simp; omega) (by exact hext1) ?_
               intro v2 w2 hown2 hext2))
          go_ret
          refine ⟨v2, rfl, ?_, hext2⟩
          rw [HFIN.out]
          simpa using hown2.txt
    · obtain rfl : k = n := by omega
      obtain ⟨A2, hA2, hsl2⟩ := cut_from (P := Try.prog) (w := w) 22 9 i0 1 Try.underlying22 hi0 hz1 HR.out (by rw [List.length_map, HN.out]; omega) h2 k (k : Int) rfl (by omega)
      rw [Nat.mul_one, ← List.map_drop] at hA2
      have HA2 := Lib.hid hA2
      clear hA2
      have hfin : addL xs s = xs.take k ++ [s] := by
        rw [addL_at xs s k (by rw [HN.out]; omega) HU.out, List.drop_of_length_le (by rw [HN.out]; omega), addL]
      have HFIN := Lib.hid hfin
      clear hfin
      go_wp2_with (first
        | (at_builtin
           refine app_strs _ rfl (.tmp 28) (.tmp 30) rfl w _ (xs.take k) rfl (by exact Own.alloc hown _) (some ⟨wr.heap.size, 0, none⟩) 1 1 [s] rfl rfl (Rd.new wr #[.string s] 9) (by rw [HLK.out]; simp; omega) (by exact Ext.alloc_ hext _) ?_
           intro v1 w1 hown1 hext1)
        | (at_builtin
           refine app_strs _ rfl (.tmp 46) (.tmp 49) rfl w _ (xs.take k ++ [s]) rfl (by exact hown1) A2 0 (c - k) (xs.drop k) rfl (by rw [List.length_drop, HN.out]; omega) (by exact HA2.out.ext hext1) (by rw [List.length_append, HLK.out, List.length_drop, HN.out]; simp; omega) (by exact hext1) ?_
           intro v2 w2 hown2 hext2))
      go_ret
      refine ⟨v2, rfl, ?_, hext2⟩
      rw [HFIN.out]
      have := hown2.txt
      rw [List.drop_of_length_le (by rw [HN.out]; omega), List.append_nil] at this
      exact this


theorem addL_fit {l : List ByteArray} {s : ByteArray} (h : Fit (s :: l)) : Fit (addL l s) := fun x hx => h x (by
  rcases (mem_addL l s x).1 hx with rfl | h' <;> simp_all)
theorem norm_fit {l : List ByteArray} (h : Fit l) : Fit (norm l) := fun x hx => h x ((mem_norm l x).1 hx)
theorem Fit.take {l : List ByteArray} (h : Fit l) (k : Nat) : Fit (l.take k) := fun x hx => h x (List.mem_of_mem_take hx)
theorem norm_step (xs : List ByteArray) (k : Nat) (h : k < xs.length) : norm (xs.take (k + 1)) = addL (norm (xs.take k)) (xs.getD k ByteArray.empty) := by
  rw [take_step xs k h, norm_snoc]
theorem getD_mem (xs : List ByteArray) (k : Nat) (h : k < xs.length) : xs.getD k ByteArray.empty ∈ xs := by
  rw [List.getD_eq_getElem?_getD, List.getElem?_eq_getElem h]; exact List.getElem_mem h

end Go.Proofs.Ytccjbmmhdbainaa
