/- The walks of package file: crashes. -/
import Derived.Test.YtdndeggognfcaaaFilM
namespace Go.Proofs.Ytdndeggognfcaaa
open Go.RowKit Go.Lib Fil
set_option linter.unusedVariables false
set_option maxRecDepth 100000

theorem crash1_any (g : Nat) (A : Option Addr) (n c sure : Nat) (keep : Int) (w : World) (c0 : w.cell? ⟨g, 0, none⟩ = some (.slice A n c)) (c1 : w.cell? ⟨g, 1, none⟩ = some (.int .i64 (sure : Int)))
    (f0 : w.frozen? ⟨g, 0, none⟩ = false) (f1 : w.frozen? ⟨g, 1, none⟩ = false) (h1 : sure ≤ n) (h2 : n ≤ c) (h3 : n ≤ 16777216) (hk : 0 ≤ keep) (hk2 : keep ≤ 9223372036854775807) :
    Calls Try.prog 46 #[.pointer (some ⟨g, 0, none⟩), .int .i64 keep] w fun e w' => e = .returned (.tuple #[]) ∧ ∃ q, w' = (((w.drewN q).setCell ⟨g, 0, none⟩ (.slice A (sure + min keep.toNat (n - sure)) (sure + min keep.toNat (n - sure)))).setCell ⟨g, 1, none⟩ (.int .i64 ((sure + min keep.toNat (n - sure) : Nat) : Int))) := by
  obtain ⟨i0, hi0, hz0, hz1, hz2⟩ := info_parts Try.u8Info
  obtain ⟨k, rfl⟩ : ∃ k : Nat, keep = k := ⟨keep.toNat, by omega⟩
  obtain ⟨m, hm, hmin⟩ : ∃ m : Nat, sure + min (k : Int).toNat (n - sure) = m ∧ (if (n : Int) - (sure : Int) < (k : Int) then (n : Int) - (sure : Int) else (k : Int)) + (sure : Int) = (m : Int) := ⟨_, rfl, by split <;> omega⟩
  have hmc : m ≤ c := by omega
  have hm0 : (0 : Int) ≤ (m : Int) := by omega
  rw [hm]
  have hcut := cut_cap (P := Try.prog) (A := A) (n := n) (c := c) 50 5 i0 Try.underlying50 hi0 m (m : Int) rfl hmc
  have HM := Lib.hid hm
  have HMIN := Lib.hid hmin
  clear hm hmin
  go_enter Try.func46, Try.ntmps46
  go_wp2_with fail
  go_quiet (fail)
  rw [HMIN.out]
  go_wp2_with fail
  all_goals
    go_end0
    exact ⟨rfl, _, rfl⟩

theorem FileAt.otherPtr {w : World} {g : Nat} {L : List Nat} {t : St} (h : FileAt w g L t) : (t.other = none → w.cell? ⟨g, 2, none⟩ = some (.pointer none)) ∧ (∀ p, t.other = some p → ∃ go, w.cell? ⟨g, 2, none⟩ = some (.pointer (some ⟨go, 0, none⟩))) := by
  obtain ⟨bv, ov, dv, Lo, Ld, hg, hb, ho, hd, rfl, hne⟩ := h
  have c2 : w.cell? ⟨g, 2, none⟩ = some ov := heap_cell hg 2
  refine ⟨fun e => ?_, fun p e => ?_⟩
  · rw [e] at ho
    rw [c2, ho.1]
  · rw [e] at ho
    obtain ⟨go, ob, rfl, _⟩ := ho
    exact ⟨go, c2⟩
theorem crash_self (g : Nat) (L : List Nat) (t : St) (keep : Int) (w : World) (h : FileAt w g L t) (hok : Fine1 (t.s, t.sure)) (hk : 0 ≤ keep) (hk2 : keep ≤ 9223372036854775807) :
    Calls Try.prog 46 #[.pointer (some ⟨g, 0, none⟩), .int .i64 keep] w fun e w' => e = .returned (.tuple #[]) ∧ Kp L w w' ∧ FileAt w' g L { t with s := (crash1 (t.s, t.sure) keep).1, sure := (crash1 (t.s, t.sure) keep).2 } := by
  obtain ⟨bv, ov, dv, Lo, Ld, hg, hb, ho, hd, rfl, hne⟩ := h
  obtain ⟨A, n, c, rfl, hn, hnc, hcm, hr⟩ := hb.byt
  rw [size_list] at hn
  have h1 := hok.1
  have h2 := hok.2
  simp only at h1 h2
  refine (crash1_any g A n c t.sure keep w (heap_cell hg 0) (heap_cell hg 1) (heap_frozen hg 0) (heap_frozen hg 1) (by omega) hnc (by omega) hk hk2).mono ?_
  rintro e w' ⟨rfl, q, rfl⟩
  have hm : keptN t.s t.sure keep = t.sure + min keep.toNat (n - t.sure) := by unfold keptN; rw [hn]
  have hle := keptN_le t.s t.sure keep h2
  rw [← hm]
  have hg0 : (w.drewN q).heap[g]? = some (.cells #[.slice A n c, .int .i64 (t.sure : Int), ov, dv] 82 (0, 0)) := hg
  have s1 := heap_setCell_same _ g 0 _ _ (.slice A (keptN t.s t.sure keep) (keptN t.s t.sure keep)) hg0
  have s2 := heap_setCell_same _ g 1 _ _ (.int .i64 (keptN t.s t.sure keep : Int)) s1
  have k2 : Kp [g] w (((w.drewN q).setCell ⟨g, 0, none⟩ (.slice A (keptN t.s t.sure keep) (keptN t.s t.sure keep))).setCell ⟨g, 1, none⟩ (.int .i64 (keptN t.s t.sure keep : Int))) :=
    (((Kp.of_ext (L := [g]) (Ext.drewN q w))).trans (Kp.store g 0 _ (by simp) : Kp [g] _ _) (Sub.refl _ _)).trans (Kp.store g 1 _ (by simp) : Kp [g] _ _) (Sub.refl _ _)
  have hnb := nob_of hg (by decide)
  have hne2 := FileAt.ne hg ho hd
  refine ⟨rfl, k2.mono (by simp), _, ov, dv, Lo, Ld, s2, ?_, ho.kp k2 hnb (by simpa using hne2.1), hd.kp k2 hnb (by simpa using hne2.2), rfl, hne⟩
  have := (hb.cut (keptN t.s t.sure keep) (by omega)).kp k2 hnb
  show BT _ _ (cutS t.s (keptN t.s t.sure keep)).toList
  rw [cutS, toList_mk]
  exact this
theorem crash_other (g go : Nat) (L : List Nat) (t : St) (p : ByteArray × Nat) (keep : Int) (w : World) (h : FileAt w g L t) (hp : t.other = some p) (hcell : w.cell? ⟨g, 2, none⟩ = some (.pointer (some ⟨go, 0, none⟩))) (hok : Fine1 p) (hk : 0 ≤ keep) (hk2 : keep ≤ 9223372036854775807) :
    Calls Try.prog 46 #[.pointer (some ⟨go, 0, none⟩), .int .i64 keep] w fun e w' => e = .returned (.tuple #[]) ∧ Kp L w w' ∧ FileAt w' g L { t with other := some (crash1 p keep) } := by
  obtain ⟨bv, ov, dv, Lo, Ld, hg, hb, ho, hd, rfl, hne⟩ := h
  have hne2 := FileAt.ne hg ho hd
  rw [hp] at ho
  obtain ⟨go', ob, rfl, rfl, hgo, hob⟩ := ho
  have hge : w.cell? ⟨g, 2, none⟩ = some (.pointer (some ⟨go', 0, none⟩)) := heap_cell hg 2
  rw [hge] at hcell
  injection hcell with hcell
  injection hcell with hcell
  injection hcell with hcell
  injection hcell with hcell
  subst hcell
  obtain ⟨A, n, c, rfl, hn, hnc, hcm, hr⟩ := hob.byt
  rw [size_list] at hn
  have h1 := hok.1
  have h2 := hok.2
  refine (crash1_any go' A n c p.2 keep w (heap_cell hgo 0) (heap_cell hgo 1) (heap_frozen hgo 0) (heap_frozen hgo 1) (by omega) hnc (by omega) hk hk2).mono ?_
  rintro e w' ⟨rfl, q, rfl⟩
  have hm : keptN p.1 p.2 keep = p.2 + min keep.toNat (n - p.2) := by unfold keptN; rw [hn]
  have hle := keptN_le p.1 p.2 keep h2
  rw [← hm]
  have hg0 : (w.drewN q).heap[go']? = some (.cells #[.slice A n c, .int .i64 (p.2 : Int)] 79 (0, 0)) := hgo
  have s1 := heap_setCell_same _ go' 0 _ _ (.slice A (keptN p.1 p.2 keep) (keptN p.1 p.2 keep)) hg0
  have s2 := heap_setCell_same _ go' 1 _ _ (.int .i64 (keptN p.1 p.2 keep : Int)) s1
  have k2 : Kp [go'] w (((w.drewN q).setCell ⟨go', 0, none⟩ (.slice A (keptN p.1 p.2 keep) (keptN p.1 p.2 keep))).setCell ⟨go', 1, none⟩ (.int .i64 (keptN p.1 p.2 keep : Int))) :=
    (((Kp.of_ext (L := [go']) (Ext.drewN q w))).trans (Kp.store go' 0 _ (by simp) : Kp [go'] _ _) (Sub.refl _ _)).trans (Kp.store go' 1 _ (by simp) : Kp [go'] _ _) (Sub.refl _ _)
  have hnb := nob_of hgo (by decide)
  refine ⟨rfl, k2.mono (by simp), bv, _, dv, [go'], Ld, k2.heap hg ?_, hb.kp k2 hnb, ⟨go', _, rfl, rfl, s2, ?_⟩, hd.kp k2 hnb ?_, rfl, hne⟩
  · simpa using fun e => hne2.1 go' (by simp) e.symm
  · have := (hob.cut (keptN p.1 p.2 keep) (by omega)).kp k2 hnb
    show BT _ _ (cutS p.1 (keptN p.1 p.2 keep)).toList
    rw [cutS, toList_mk]
    exact this
  · intro k hk hkg
    simp at hkg
    exact hne go' (by simp) (hkg ▸ hk)
/-- The old text comes back. -/
theorem back_old {g gq n c : Nat} {L : List Nat} {t : St} {A : Option Addr} {q : ByteArray × Nat} {w : World} (h : FileAt w g L t) (hq : t.old = some q) (hcell : w.cell? ⟨g, 3, none⟩ = some (.pointer (some ⟨gq, 0, none⟩)))
    (h0 : w.cell? ⟨gq, 0, none⟩ = some (.slice A n c)) : Kp L w ((w.setCell ⟨g, 0, none⟩ (.slice A n c)).setCell ⟨g, 1, none⟩ (.int .i64 (q.2 : Int))) ∧ FileAt ((w.setCell ⟨g, 0, none⟩ (.slice A n c)).setCell ⟨g, 1, none⟩ (.int .i64 (q.2 : Int))) g L { t with s := q.1, sure := q.2 } := by
  obtain ⟨bv, ov, dv, Lo, Ld, hg, hb, ho, hd, rfl, hne⟩ := h
  have hne2 := FileAt.ne hg ho hd
  have hd0 := hd
  rw [hq] at hd
  obtain ⟨gq', qb, rfl, rfl, hgq, hqb⟩ := hd
  have hge : w.cell? ⟨g, 3, none⟩ = some (.pointer (some ⟨gq', 0, none⟩)) := heap_cell hg 3
  rw [hge] at hcell
  injection hcell with hcell
  injection hcell with hcell
  injection hcell with hcell
  injection hcell with hcell
  subst hcell
  have h0' : w.cell? ⟨gq', 0, none⟩ = some qb := heap_cell hgq 0
  rw [h0'] at h0
  injection h0 with h0
  subst h0
  have s1 := heap_setCell_same _ g 0 _ _ (.slice A n c) hg
  have s2 := heap_setCell_same _ g 1 _ _ (.int .i64 (q.2 : Int)) s1
  have k2 : Kp [g] w ((w.setCell ⟨g, 0, none⟩ (.slice A n c)).setCell ⟨g, 1, none⟩ (.int .i64 (q.2 : Int))) := (Kp.store g 0 _ (by simp) : Kp [g] _ _).trans (Kp.store g 1 _ (by simp) : Kp [g] _ _) (Sub.refl _ _)
  have hnb := nob_of hg (by decide)
  exact ⟨k2.mono (by simp), _, ov, _, Lo, [gq'], s2, hqb.kp k2 hnb, ho.kp k2 hnb (by simpa using hne2.1), hd0.kp k2 hnb (by simpa using hne2.2), rfl, hne⟩
end Go.Proofs.Ytdndeggognfcaaa
