/- The walks of package file. -/
import Derived.Test.YtdndeggognfcaaaFilK
namespace Go.Proofs.Ytdndeggognfcaaa
open Go.RowKit Go.Lib Fil
set_option linter.unusedVariables false
set_option maxRecDepth 100000

theorem sure_any (g : Nat) (L : List Nat) (t : St) (w : World) (h : FileAt w g L t) :
    Calls Try.prog 34 #[.pointer (some ⟨g, 0, none⟩)] w fun e w' => e = .returned (.int .i64 (t.sure : Int)) ∧ w = w' := by
  obtain ⟨bv, ov, dv, Lo, Ld, hg, hb, ho, hd, rfl, hne⟩ := h
  have c1 : w.cell? ⟨g, 1, none⟩ = some (.int .i64 (t.sure : Int)) := heap_cell hg 1
  clear hg hb ho hd hne
  go_enter Try.func34, Try.ntmps34
  go_wp2_with fail
  go_ret
  exact ⟨rfl, rfl⟩
theorem text_any (g : Nat) (L : List Nat) (t : St) (w : World) (h : FileAt w g L t) :
    Calls Try.prog 33 #[.pointer (some ⟨g, 0, none⟩)] w fun e w' => e = .returned (.string t.s) ∧ w = w' := by
  obtain ⟨bv, ov, dv, Lo, Ld, hg, hb, ho, hd, rfl, hne⟩ := h
  obtain ⟨A, n, c, rfl, hn, hnc, hcm, hr⟩ := hb.byt
  have c0 : w.cell? ⟨g, 0, none⟩ = some (.slice A n c) := heap_cell hg 0
  have hback := back (c := c) hn hr
  rw [bytes_mk] at hback
  clear hg hb ho hd hne hr hn
  go_enter Try.func33, Try.ntmps33
  go_wp2_with fail
  go_ret
  exact ⟨rfl, rfl⟩
theorem sync_any (g : Nat) (L : List Nat) (t : St) (w : World) (h : FileAt w g L t) :
    Calls Try.prog 41 #[.pointer (some ⟨g, 0, none⟩)] w fun e w' => e = .returned (.int .i64 0) ∧ Did w w' g L (syncT t) := by
  have hnb := h.nob
  obtain ⟨bv, ov, dv, Lo, Ld, hg, hb, ho, hd, rfl, hne⟩ := h
  obtain ⟨A, n, c, rfl, hn, hnc, hcm, hr⟩ := hb.byt
  have c0 : w.cell? ⟨g, 0, none⟩ = some (.slice A n c) := heap_cell hg 0
  have f1 := heap_frozen hg 1
  have f3 := heap_frozen hg 3
  have c1 := heap_cell hg 1
  have c3 := heap_cell hg 3
  rw [size_list] at hn
  have hgo : ∀ k ∈ Lo, k ≠ g := fun k hk e => by
    obtain ⟨c', f', h'⟩ := ho.typed k hk
    subst e
    exact blocks_ne hg h' (by decide) rfl
  have HG := Lib.hid hg
  have HB := Lib.hid hb
  have HO := Lib.hid ho
  have HN := Lib.hid hn
  have HNB := Lib.hid hnb
  have HGO := Lib.hid hgo
  clear hg hb ho hd hne hr hn hnb hgo
  go_enter Try.func41, Try.ntmps41
  go_wp2_with fail
  go_ret
  have h1 := heap_setCell_same w g 1 _ _ (.int .i64 (n : Int)) HG.out
  have h2 := heap_setCell_same _ g 3 _ _ (.pointer none) h1
  have k1 : Kp [g] w (w.setCell ⟨g, 1, none⟩ (.int .i64 (n : Int))) := Kp.store g 1 _ (by simp)
  have k2 := k1.trans (Kp.store (L := [g]) g 3 (.pointer none) (by simp)) (Sub.refl _ _)
  have hnb1 : NoB w [g] := fun k hk => HNB.out k (by simp at hk; simp [hk])
  refine ⟨rfl, k2.mono (by simp), g :: Lo, ⟨_, ov, .pointer none, Lo, [], ?_, HB.out.kp k2 hnb1, HO.out.kp k2 hnb1 (by simpa using HGO.out), ⟨rfl, rfl⟩, by simp, by simp⟩, fun k hk => .inl (by simp at hk ⊢; rcases hk with hk | hk <;> simp [hk])⟩
  rw [show (syncT t).sure = n from HN.out]
  exact h2
theorem append_any (g : Nat) (L : List Nat) (t : St) (s : ByteArray) (w : World) (h : FileAt w g L t) (hok : t.Ok) (hs : s.size ≤ 9223372036854775807) :
    Calls Try.prog 26 #[.pointer (some ⟨g, 0, none⟩), .string s] w fun e w' => e = .returned (.int .i64 (appendR t s).1) ∧ Did w w' g L (appendR t s).2 ∧ Kp [g] w w' := by
  obtain ⟨i0, hi0, hz0, hz1, hz2⟩ := info_parts Try.u8Info
  have hsz : t.s.size ≤ 16777216 := hok.text.1
  have HF := Lib.hid h
  obtain ⟨bv, ov, dv, Lo, Ld, hg, hb, ho, hd, rfl, hne⟩ := h
  obtain ⟨A, n, c, rfl, hn, hnc, hcm, _⟩ := hb.byt
  have c0 : w.cell? ⟨g, 0, none⟩ = some (.slice A n c) := heap_cell hg 0
  have f0 := heap_frozen hg 0
  rw [size_list] at hn
  have hcut := cut_cap (P := Try.prog) (A := A) (n := n) (c := c) 50 5 i0 Try.underlying50 hi0 n (n : Int) rfl hnc
  have hgo : ∀ k ∈ Lo, k ≠ g := fun k hk e => by
    obtain ⟨c', f', h'⟩ := ho.typed k hk
    subst e
    exact blocks_ne hg h' (by decide) rfl
  have hgd : ∀ k ∈ Ld, k ≠ g := fun k hk e => by
    obtain ⟨c', f', h'⟩ := hd.typed k hk
    subst e
    exact blocks_ne hg h' (by decide) rfl
  have HG := Lib.hid hg
  have HB := Lib.hid hb
  have HO := Lib.hid (And.intro ho (And.intro hd hne))
  have HGO := Lib.hid (And.intro hgo hgd)
  clear hg hb ho hd hne hgo hgd
  by_cases hbig : t.s.size + s.size > 16777216
  · have hr : appendR t s = (13, t) := if_pos hbig
    rw [hr]
    clear hr
    have hbI : 16777216 - (s.size : Int) < (n : Int) := by omega
    have HN := Lib.hid hn
    clear hn hok
    go_enter Try.func26, Try.ntmps26
    go_wp2_with fail
    go_ret
    exact ⟨rfl, Did.same HF.out, Kp.refl _ _⟩
  · have hr : appendR t s = (0, { t with s := t.s ++ s }) := if_neg hbig
    rw [hr]
    clear hr
    have hbI : (n : Int) ≤ 16777216 - (s.size : Int) := by omega
    have HN := Lib.hid hn
    clear hn hok
    go_enter Try.func26, Try.ntmps26
    have hb1 := HB.out.cut n (Nat.le_refl _)
    rw [List.take_of_length_le (by rw [size_list, HN.out]; exact Nat.le_refl _)] at hb1
    have HB1 := Lib.hid hb1
    clear hb1
    go_wp2_with (first
      | (at_builtin
         refine wp_app_str _ rfl (.tmp 34) (.tmp 35) rfl i0 Try.underlying50 Try.underlying9 hi0 hz0 hz1 hz2 A n t.s.toList rfl HB1.out s rfl (by omega) ?_
         intro v1 w1 hb1 hx1
         obtain ⟨A1, n1, c1, rfl, _, _, _, _⟩ := hb1.byt
         have hg1 := (Kp.of_ext (L := []) hx1).heap HG.out (by simp)
         have d0 : w1.cell? ⟨g, 0, none⟩ = some (.slice A n c) := heap_cell hg1 0
         have e0 := heap_frozen hg1 0
         have HG1 := Lib.hid hg1
         have HBT1 := Lib.hid hb1
         have HX1 := Lib.hid hx1
         clear hg1 hb1 hx1 c0 f0))
    go_ret
    have hst : Kp [g] w1 (w1.setCell ⟨g, 0, none⟩ (.slice A1 n1 c1)) := Kp.store g 0 _ (by simp)
    have hk := (Kp.of_ext (L := [g]) HX1.out).trans hst (Sub.refl _ _)
    have hnb1 : NoB w1 [g] := fun k hk c f hc => by
      simp at hk
      subst hk
      exact blocks_ne HG1.out hc (by decide) rfl
    refine ⟨rfl, ⟨hk.mono (by simp), g :: (Lo ++ Ld), ?_, Sub.refl _ _⟩, hk⟩
    refine ⟨_, ov, dv, Lo, Ld, heap_setCell_same _ g 0 _ _ _ HG1.out, ?_, ?_, ?_, rfl, HO.out.2.2⟩
    · have := HBT1.out.kp hst hnb1
      show BT _ _ (t.s ++ s).toList
      rw [toList_append2]
      exact this
    · exact (HO.out.1.ext HX1.out).kp hst hnb1 (by simpa using HGO.out.1)
    · exact (HO.out.2.1.ext HX1.out).kp hst hnb1 (by simpa using HGO.out.2)
theorem cut_any (g : Nat) (L : List Nat) (t : St) (k : Int) (w : World) (h : FileAt w g L t) (h1 : -9223372036854775808 ≤ k) (h2 : k ≤ 9223372036854775807) :
    Calls Try.prog 39 #[.pointer (some ⟨g, 0, none⟩), .int .i64 k] w fun e w' => e = .returned (.int .i64 (cutR t k).1) ∧ Did w w' g L (cutR t k).2 := by
  obtain ⟨i0, hi0, hz0, hz1, hz2⟩ := info_parts Try.u8Info
  have HF := Lib.hid h
  obtain ⟨bv, ov, dv, Lo, Ld, hg, hb, ho, hd, rfl, hne⟩ := h
  obtain ⟨A, n, c, rfl, hn, hnc, hcm, _⟩ := hb.byt
  have c0 : w.cell? ⟨g, 0, none⟩ = some (.slice A n c) := heap_cell hg 0
  have f0 := heap_frozen hg 0
  rw [size_list] at hn
  have hgo : ∀ k ∈ Lo, k ≠ g := fun k hk e => by
    obtain ⟨c', f', h'⟩ := ho.typed k hk
    subst e
    exact blocks_ne hg h' (by decide) rfl
  have hgd : ∀ k ∈ Ld, k ≠ g := fun k hk e => by
    obtain ⟨c', f', h'⟩ := hd.typed k hk
    subst e
    exact blocks_ne hg h' (by decide) rfl
  have HG := Lib.hid hg
  have HB := Lib.hid hb
  have HO := Lib.hid (And.intro ho (And.intro hd hne))
  have HGO := Lib.hid (And.intro hgo hgd)
  clear hg hb ho hd hne hgo hgd
  by_cases hbad : k < 0 ∨ (t.s.size : Int) < k
  · have hr : cutR t k = (1, t) := if_pos hbad
    rw [hr]
    clear hr
    rw [hn] at hbad
    clear hn
    rcases hbad with hb | hb
    · go_enter Try.func39, Try.ntmps39
      go_wp2_with fail
      go_ret
      exact ⟨rfl, Did.same HF.out⟩
    · have hk0 : 0 ≤ k := by omega
      go_enter Try.func39, Try.ntmps39
      go_wp2_with fail
      go_ret
      exact ⟨rfl, Did.same HF.out⟩
  · have hr : cutR t k = (0, syncT { t with s := cutS t.s k.toNat }) := if_neg hbad
    rw [hr]
    clear hr
    rw [hn] at hbad
    obtain ⟨j, rfl⟩ : ∃ j : Nat, k = j := ⟨k.toNat, by omega⟩
    have hjn : (j : Int) ≤ (n : Int) := by omega
    have hj0 : (0 : Int) ≤ (j : Int) := by omega
    have hjn' : j ≤ n := by omega
    have hcut := cut_cap (P := Try.prog) (A := A) (n := n) (c := c) 50 5 i0 Try.underlying50 hi0 j (j : Int) rfl (by omega)
    clear hn hbad
    have hst : Kp [g] w (w.setCell ⟨g, 0, none⟩ (.slice A j j)) := Kp.store g 0 _ (by simp)
    have hnb1 : NoB w [g] := fun k hk c f hc => by
      simp at hk
      subst hk
      exact blocks_ne HG.out hc (by decide) rfl
    have hfile : FileAt (w.setCell ⟨g, 0, none⟩ (.slice A j j)) g (g :: (Lo ++ Ld)) { t with s := cutS t.s j } := by
      refine ⟨.slice A j j, ov, dv, Lo, Ld, heap_setCell_same w g 0 _ _ _ HG.out, ?_, HO.out.1.kp hst hnb1 (by simpa using HGO.out.1), HO.out.2.1.kp hst hnb1 (by simpa using HGO.out.2), rfl, HO.out.2.2⟩
      have := (HB.out.cut j hjn').kp hst hnb1
      show BT _ _ (cutS t.s j).toList
      rw [cutS, toList_mk]
      exact this
    have HST := Lib.hid (hst.mono (L' := g :: (Lo ++ Ld)) (by simp))
    have HFI := Lib.hid hfile
    clear hst hfile
    go_enter Try.func39, Try.ntmps39
    go_wp2_with fail
    refine (sync_any g _ _ _ HFI.out).mono ?_
    rintro e w2 ⟨rfl, hd2, L2, hf2, hs2⟩
    go_wp2_with fail
    go_ret
    exact ⟨rfl, HST.out.trans hd2 (Sub.refl _ _), L2, hf2, (Sub.refl _ _).trans hs2 HST.out.size⟩
end Go.Proofs.Ytdndeggognfcaaa
