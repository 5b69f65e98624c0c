/- The walks of the document's file. -/
import Derived.Test.YtdndeggognfcaaaFilR
namespace Go.Proofs.Ytdndeggognfcaaa
open Go.RowKit Go.Lib Fil
set_option linter.unusedVariables false
set_option maxRecDepth 100000


def oldS (t : St) : ByteArray := match t.old with | none => ⟨#[]⟩ | some p => p.1
def oldN (t : St) : Nat := match t.old with | none => 0 | some p => p.2
/-- The document's file at block g. -/
def RefAt (w : World) (g : Nat) (t : St) : Prop :=
  w.heap[g]? = some (.cells #[.string t.s, .int .i64 (t.sure : Int), .string (otherS t), .int .i64 (otherN t : Int), .bool t.other.isSome, .string (oldS t), .int .i64 (oldN t : Int), .bool t.old.isSome] 54 (0, 0))
theorem RefAt.kp {w w' : World} {g : Nat} {t : St} {L : List Nat} (h : RefAt w g t) (hk : Kp L w w') (hn : g ∉ L) : RefAt w' g t := hk.heap h hn
theorem RefAt.ext {w w' : World} {g : Nat} {t : St} (h : RefAt w g t) (hk : Ext w w') : RefAt w' g t := h.kp (L := []) (Kp.of_ext hk) (by simp)
theorem extract_cut (s : ByteArray) (n : Nat) : s.extract 0 n = cutS s n := by
  apply bytes_ext
  rw [cutS, toList_mk, Lib.toList_data, Lib.toList_data]
  simp

theorem rSync_any (g : Nat) (t : St) (w : World) (h : RefAt w g t) (hok : t.s.size ≤ 16777216) :
    Calls Try.prog 50 #[.pointer (some ⟨g, 0, none⟩)] w fun e w' => e = .returned (.int .i64 0) ∧ Kp [g] w w' ∧ RefAt w' g (syncT t) := by
  have c0 : w.cell? ⟨g, 0, none⟩ = some (.string t.s) := heap_cell h 0
  have c1 : w.cell? ⟨g, 1, none⟩ = some (.int .i64 (t.sure : Int)) := heap_cell h 1
  have c5 : w.cell? ⟨g, 5, none⟩ = some (.string (oldS t)) := heap_cell h 5
  have c6 : w.cell? ⟨g, 6, none⟩ = some (.int .i64 (oldN t : Int)) := heap_cell h 6
  have c7 : w.cell? ⟨g, 7, none⟩ = some (.bool t.old.isSome) := heap_cell h 7
  have f1 := heap_frozen h 1
  have f5 := heap_frozen h 5
  have f6 := heap_frozen h 6
  have f7 := heap_frozen h 7
  have H := Lib.hid h
  clear h
  go_enter Try.func50, Try.ntmps50
  go_wp2_with fail
  go_ret
  have s1 := heap_setCell_same _ g 1 _ _ (.int .i64 (t.s.size : Int)) H.out
  have s2 := heap_setCell_same _ g 7 _ _ (.bool false) s1
  have s3 := heap_setCell_same _ g 5 _ _ (.string ⟨#[]⟩) s2
  have s4 := heap_setCell_same _ g 6 _ _ (.int .i64 0) s3
  have k4 : Kp [g] w ((((w.setCell ⟨g, 1, none⟩ (.int .i64 (t.s.size : Int))).setCell ⟨g, 7, none⟩ (.bool false)).setCell ⟨g, 5, none⟩ (.string ⟨#[]⟩)).setCell ⟨g, 6, none⟩ (.int .i64 0)) :=
    (((Kp.store g 1 _ (by simp) : Kp [g] _ _).trans (Kp.store g 7 _ (by simp) : Kp [g] _ _) (Sub.refl _ _)).trans (Kp.store g 5 _ (by simp) : Kp [g] _ _) (Sub.refl _ _)).trans (Kp.store g 6 _ (by simp) : Kp [g] _ _) (Sub.refl _ _)
  exact ⟨rfl, k4, s4⟩

theorem rAppend_any (g : Nat) (t : St) (s : ByteArray) (w : World) (h : RefAt w g t) (hok : t.s.size ≤ 16777216) (hs : s.size ≤ 140737488351232) :
    Calls Try.prog 27 #[.pointer (some ⟨g, 0, none⟩), .string s] w fun e w' => e = .returned (.int .i64 (appendR t s).1) ∧ Kp [g] w w' ∧ RefAt w' g (appendR t s).2 := by
  have c0 : w.cell? ⟨g, 0, none⟩ = some (.string t.s) := heap_cell h 0
  have f0 := heap_frozen h 0
  have H := Lib.hid h
  clear h
  by_cases hbig : t.s.size + s.size > 16777216
  · have hr : appendR t s = (13, t) := if_pos hbig
    rw [hr]
    clear hr
    have hbI : 16777216 < (t.s.size : Int) + (s.size : Int) := by omega
    go_enter Try.func27, Try.ntmps27
    go_wp2_with fail
    go_ret
    exact ⟨rfl, Kp.refl _ _, H.out⟩
  · have hr : appendR t s = (0, { t with s := t.s ++ s }) := if_neg hbig
    rw [hr]
    clear hr
    have hbI : (t.s.size : Int) + (s.size : Int) ≤ 16777216 := by omega
    go_enter Try.func27, Try.ntmps27
    go_wp2_with fail
    go_ret
    have s1 := heap_setCell_same _ g 0 _ _ (.string (t.s ++ s)) H.out
    exact ⟨rfl, Kp.store g 0 _ (by simp), s1⟩

theorem rCut_any (g : Nat) (t : St) (k : Int) (w : World) (h : RefAt w g t) (hok : t.s.size ≤ 16777216) (h1 : -9223372036854775808 ≤ k) (h2 : k ≤ 9223372036854775807) :
    Calls Try.prog 48 #[.pointer (some ⟨g, 0, none⟩), .int .i64 k] w fun e w' => e = .returned (.int .i64 (cutR t k).1) ∧ Kp [g] w w' ∧ RefAt w' g (cutR t k).2 := by
  have c0 : w.cell? ⟨g, 0, none⟩ = some (.string t.s) := heap_cell h 0
  have f0 := heap_frozen h 0
  have H := Lib.hid h
  clear h
  by_cases hbad : k < 0 ∨ (t.s.size : Int) < k
  · have hr : cutR t k = (1, t) := if_pos hbad
    rw [hr]
    clear hr
    rcases hbad with hb | hb
    · have hd : decide (k < 0) = true := by simpa using hb
      go_enter Try.func48, Try.ntmps48
      go_wp2_with fail
      go_ret
      exact ⟨rfl, Kp.refl _ _, H.out⟩
    · have hk0 : 0 ≤ k := by omega
      go_enter Try.func48, Try.ntmps48
      go_wp2_with fail
      go_ret
      exact ⟨rfl, Kp.refl _ _, H.out⟩
  · have hr : cutR t k = (0, syncT { t with s := cutS t.s k.toNat }) := if_neg hbad
    rw [hr]
    clear hr
    obtain ⟨j, rfl⟩ : ∃ j : Nat, k = j := ⟨k.toNat, by omega⟩
    have hjn : (j : Int) ≤ (t.s.size : Int) := by omega
    have hj0 : (0 : Int) ≤ (j : Int) := by omega
    have hjn' : j ≤ t.s.size := by omega
    have hcs : (cutS t.s j).size ≤ 16777216 := by rw [cutS_size _ _ hjn']; omega
    have hex := extract_cut t.s j
    have s1 : RefAt (w.setCell ⟨g, 0, none⟩ (.string (cutS t.s j))) g { t with s := cutS t.s j } := heap_setCell_same _ g 0 _ _ (.string (cutS t.s j)) H.out
    have HS := Lib.hid s1
    clear hbad s1
    go_enter Try.func48, Try.ntmps48
    go_wp2_with fail
    refine (rSync_any g _ _ HS.out hcs).mono ?_
    rintro e w2 ⟨rfl, hk2, hr2⟩
    go_wp2_with fail
    go_ret
    exact ⟨rfl, (Kp.store g 0 _ (by simp) : Kp [g] _ _).trans hk2 (Sub.refl _ _), hr2⟩

theorem rLay_any (g : Nat) (t : St) (s : ByteArray) (w : World) (h : RefAt w g t) (hs : s.size ≤ 140737488351232) :
    Calls Try.prog 51 #[.pointer (some ⟨g, 0, none⟩), .string s] w fun e w' => e = .returned (.int .i64 (layR t s).1) ∧ Kp [g] w w' ∧ RefAt w' g (layR t s).2 := by
  have c2 : w.cell? ⟨g, 2, none⟩ = some (.string (otherS t)) := heap_cell h 2
  have c3 : w.cell? ⟨g, 3, none⟩ = some (.int .i64 (otherN t : Int)) := heap_cell h 3
  have c4 : w.cell? ⟨g, 4, none⟩ = some (.bool t.other.isSome) := heap_cell h 4
  have f2 := heap_frozen h 2
  have f3 := heap_frozen h 3
  have f4 := heap_frozen h 4
  have H := Lib.hid h
  clear h
  by_cases hbig : s.size > 16777216
  · have hr : layR t s = (13, t) := if_pos hbig
    rw [hr]
    clear hr
    have hbI : 16777216 < (s.size : Int) := by omega
    go_enter Try.func51, Try.ntmps51
    go_wp2_with fail
    go_ret
    exact ⟨rfl, Kp.refl _ _, H.out⟩
  · have hr : layR t s = (0, { t with other := some (s, 0) }) := if_neg hbig
    rw [hr]
    clear hr
    have hbI : (s.size : Int) ≤ 16777216 := by omega
    go_enter Try.func51, Try.ntmps51
    go_wp2_with fail
    go_ret
    have s1 := heap_setCell_same _ g 2 _ _ (.string s) H.out
    have s2 := heap_setCell_same _ g 3 _ _ (.int .i64 0) s1
    have s3 := heap_setCell_same _ g 4 _ _ (.bool true) s2
    exact ⟨rfl, ((Kp.store g 2 _ (by simp) : Kp [g] _ _).trans (Kp.store g 3 _ (by simp) : Kp [g] _ _) (Sub.refl _ _)).trans (Kp.store g 4 _ (by simp) : Kp [g] _ _) (Sub.refl _ _), s3⟩

theorem rFlush_any (g : Nat) (t : St) (w : World) (h : RefAt w g t) (hok : t.Ok) :
    Calls Try.prog 52 #[.pointer (some ⟨g, 0, none⟩)] w fun e w' => e = .returned (.int .i64 (flushR t).1) ∧ Kp [g] w w' ∧ RefAt w' g (flushR t).2 := by
  obtain ⟨s, sure, oth, old⟩ := t
  cases oth with
  | none =>
    have c4 : w.cell? ⟨g, 4, none⟩ = some (.bool false) := heap_cell h 4
    have H := Lib.hid h
    clear h
    go_enter Try.func52, Try.ntmps52
    go_wp2_with fail
    go_ret
    exact ⟨rfl, Kp.refl _ _, H.out⟩
  | some pp =>
    obtain ⟨ps, pn⟩ := pp
    have hp := (hok.other _ rfl).1
    simp only at hp
    have c2 : w.cell? ⟨g, 2, none⟩ = some (.string ps) := heap_cell h 2
    have c3 : w.cell? ⟨g, 3, none⟩ = some (.int .i64 (pn : Int)) := heap_cell h 3
    have c4 : w.cell? ⟨g, 4, none⟩ = some (.bool true) := heap_cell h 4
    have f3 := heap_frozen h 3
    have H := Lib.hid h
    clear h hok
    go_enter Try.func52, Try.ntmps52
    go_wp2_with fail
    go_ret
    have s1 := heap_setCell_same _ g 3 _ _ (.int .i64 (ps.size : Int)) H.out
    exact ⟨rfl, Kp.store g 3 _ (by simp), s1⟩

theorem rRename_any (g : Nat) (t : St) (w : World) (h : RefAt w g t) :
    Calls Try.prog 53 #[.pointer (some ⟨g, 0, none⟩)] w fun e w' => e = .returned (.int .i64 (renameR t).1) ∧ Kp [g] w w' ∧ RefAt w' g (renameR t).2 := by
  obtain ⟨s, sure, oth, old⟩ := t
  cases oth with
  | none =>
    have c4 : w.cell? ⟨g, 4, none⟩ = some (.bool false) := heap_cell h 4
    have H := Lib.hid h
    clear h
    go_enter Try.func53, Try.ntmps53
    go_wp2_with fail
    go_ret
    exact ⟨rfl, Kp.refl _ _, H.out⟩
  | some pp =>
    obtain ⟨ps, pn⟩ := pp
    have c0 : w.cell? ⟨g, 0, none⟩ = some (.string s) := heap_cell h 0
    have c1 : w.cell? ⟨g, 1, none⟩ = some (.int .i64 (sure : Int)) := heap_cell h 1
    have c2 : w.cell? ⟨g, 2, none⟩ = some (.string ps) := heap_cell h 2
    have c3 : w.cell? ⟨g, 3, none⟩ = some (.int .i64 (pn : Int)) := heap_cell h 3
    have c4 : w.cell? ⟨g, 4, none⟩ = some (.bool true) := heap_cell h 4
    have f0 := heap_frozen h 0
    have f1 := heap_frozen h 1
    have f2 := heap_frozen h 2
    have f3 := heap_frozen h 3
    have f4 := heap_frozen h 4
    have f5 := heap_frozen h 5
    have f6 := heap_frozen h 6
    have f7 := heap_frozen h 7
    cases old with
    | none =>
      have c5 : w.cell? ⟨g, 5, none⟩ = some (.string ⟨#[]⟩) := heap_cell h 5
      have c6 : w.cell? ⟨g, 6, none⟩ = some (.int .i64 0) := heap_cell h 6
      have c7 : w.cell? ⟨g, 7, none⟩ = some (.bool false) := heap_cell h 7
      have H := Lib.hid h
      clear h
      go_enter Try.func53, Try.ntmps53
      go_wp2_with fail
      go_ret
      have s1 := heap_setCell_same _ g 7 _ _ (.bool true) H.out
      simp only [List.setIfInBounds_toArray, List.set_cons_zero, List.set_cons_succ] at s1
      have s2 := heap_setCell_same _ g 5 _ _ (.string s) s1
      simp only [List.setIfInBounds_toArray, List.set_cons_zero, List.set_cons_succ] at s2
      have s3 := heap_setCell_same _ g 6 _ _ (.int .i64 (sure : Int)) s2
      simp only [List.setIfInBounds_toArray, List.set_cons_zero, List.set_cons_succ] at s3
      have s4 := heap_setCell_same _ g 0 _ _ (.string ps) s3
      simp only [List.setIfInBounds_toArray, List.set_cons_zero] at s4
      have s5 := heap_setCell_same _ g 1 _ _ (.int .i64 (pn : Int)) s4
      simp only [List.setIfInBounds_toArray, List.set_cons_zero, List.set_cons_succ] at s5
      have s6 := heap_setCell_same _ g 2 _ _ (.string ⟨#[]⟩) s5
      simp only [List.setIfInBounds_toArray, List.set_cons_zero, List.set_cons_succ] at s6
      have s7 := heap_setCell_same _ g 3 _ _ (.int .i64 0) s6
      simp only [List.setIfInBounds_toArray, List.set_cons_zero, List.set_cons_succ] at s7
      have s8 := heap_setCell_same _ g 4 _ _ (.bool false) s7
      simp only [List.setIfInBounds_toArray, List.set_cons_zero, List.set_cons_succ] at s8
      have k8 : Kp [g] w ((((((((w.setCell ⟨g, 7, none⟩ (.bool true)).setCell ⟨g, 5, none⟩ (.string s)).setCell ⟨g, 6, none⟩ (.int .i64 (sure : Int))).setCell ⟨g, 0, none⟩ (.string ps)).setCell ⟨g, 1, none⟩ (.int .i64 (pn : Int))).setCell ⟨g, 2, none⟩ (.string ⟨#[]⟩)).setCell ⟨g, 3, none⟩ (.int .i64 0)).setCell ⟨g, 4, none⟩ (.bool false)) :=
        (((((((Kp.store g 7 _ (by simp) : Kp [g] _ _).trans (Kp.store g 5 _ (by simp) : Kp [g] _ _) (Sub.refl _ _)).trans (Kp.store g 6 _ (by simp) : Kp [g] _ _) (Sub.refl _ _)).trans (Kp.store g 0 _ (by simp) : Kp [g] _ _) (Sub.refl _ _)).trans (Kp.store g 1 _ (by simp) : Kp [g] _ _) (Sub.refl _ _)).trans (Kp.store g 2 _ (by simp) : Kp [g] _ _) (Sub.refl _ _)).trans (Kp.store g 3 _ (by simp) : Kp [g] _ _) (Sub.refl _ _)).trans (Kp.store g 4 _ (by simp) : Kp [g] _ _) (Sub.refl _ _)
      exact ⟨rfl, k8, s8⟩
    | some qq =>
      obtain ⟨qs, qn⟩ := qq
      have c7 : w.cell? ⟨g, 7, none⟩ = some (.bool true) := heap_cell h 7
      have H := Lib.hid h
      clear h
      go_enter Try.func53, Try.ntmps53
      go_wp2_with fail
      go_ret
      have s4 := heap_setCell_same _ g 0 _ _ (.string ps) H.out
      simp only [List.setIfInBounds_toArray, List.set_cons_zero] at s4
      have s5 := heap_setCell_same _ g 1 _ _ (.int .i64 (pn : Int)) s4
      simp only [List.setIfInBounds_toArray, List.set_cons_zero, List.set_cons_succ] at s5
      have s6 := heap_setCell_same _ g 2 _ _ (.string ⟨#[]⟩) s5
      simp only [List.setIfInBounds_toArray, List.set_cons_zero, List.set_cons_succ] at s6
      have s7 := heap_setCell_same _ g 3 _ _ (.int .i64 0) s6
      simp only [List.setIfInBounds_toArray, List.set_cons_zero, List.set_cons_succ] at s7
      have s8 := heap_setCell_same _ g 4 _ _ (.bool false) s7
      simp only [List.setIfInBounds_toArray, List.set_cons_zero, List.set_cons_succ] at s8
      have k8 : Kp [g] w (((((w.setCell ⟨g, 0, none⟩ (.string ps)).setCell ⟨g, 1, none⟩ (.int .i64 (pn : Int))).setCell ⟨g, 2, none⟩ (.string ⟨#[]⟩)).setCell ⟨g, 3, none⟩ (.int .i64 0)).setCell ⟨g, 4, none⟩ (.bool false)) :=
        ((((Kp.store g 0 _ (by simp) : Kp [g] _ _).trans (Kp.store g 1 _ (by simp) : Kp [g] _ _) (Sub.refl _ _)).trans (Kp.store g 2 _ (by simp) : Kp [g] _ _) (Sub.refl _ _)).trans (Kp.store g 3 _ (by simp) : Kp [g] _ _) (Sub.refl _ _)).trans (Kp.store g 4 _ (by simp) : Kp [g] _ _) (Sub.refl _ _)
      exact ⟨rfl, k8, s8⟩
theorem kept_any (s : ByteArray) (sure : Nat) (keep : Int) (w : World) (h1 : sure ≤ s.size) (h3 : s.size ≤ 16777216) (hk : 0 ≤ keep) (hk2 : keep ≤ 9223372036854775807) :
    Calls Try.prog 54 #[.string s, .int .i64 (sure : Int), .int .i64 keep] w fun e w' => e = .returned (.string (cutS s (keptN s sure keep))) ∧ w = w' := by
  obtain ⟨k, rfl⟩ : ∃ k : Nat, keep = k := ⟨keep.toNat, by omega⟩
  obtain ⟨m, hm, hmin⟩ : ∃ m : Nat, keptN s sure (k : Int) = m ∧ (sure : Int) + (if (s.size : Int) - (sure : Int) < (k : Int) then (s.size : Int) - (sure : Int) else (k : Int)) = (m : Int) := ⟨_, rfl, by unfold keptN; split <;> omega⟩
  have hle := keptN_le s sure k h1
  rw [hm] at hle ⊢
  have hex := extract_cut s m
  have hm0 : (0 : Int) ≤ (m : Int) := by omega
  have hmI : (m : Int) ≤ (s.size : Int) := by omega
  clear hm
  go_enter Try.func54, Try.ntmps54
  go_wp2_with fail
  all_goals
    go_ret
    exact ⟨rfl, rfl⟩
end Go.Proofs.Ytdndeggognfcaaa
