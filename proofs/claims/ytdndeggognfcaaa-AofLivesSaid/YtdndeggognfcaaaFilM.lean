/- The walks of package file: the other text, made sure, renamed, told. -/
import Derived.Test.YtdndeggognfcaaaFilL
namespace Go.Proofs.Ytdndeggognfcaaa
open Go.RowKit Go.Lib Fil
set_option linter.unusedVariables false
set_option maxRecDepth 100000

def otherS (t : St) : ByteArray := match t.other with | none => ⟨#[]⟩ | some p => p.1
def otherN (t : St) : Nat := match t.other with | none => 0 | some p => p.2
theorem flush_any (g : Nat) (L : List Nat) (t : St) (w : World) (h : FileAt w g L t) :
    Calls Try.prog 44 #[.pointer (some ⟨g, 0, none⟩)] w fun e w' => e = .returned (.int .i64 (flushR t).1) ∧ Did w w' g L (flushR t).2 := by
  have hst := state_any g L t w h
  have HF := Lib.hid h
  obtain ⟨bv, ov, dv, Lo, Ld, hg, hb, ho, hd, rfl, hne⟩ := h
  have c2 : w.cell? ⟨g, 2, none⟩ = some ov := heap_cell hg 2
  obtain ⟨s, sure, oth, old⟩ := t
  cases oth with
  | none =>
    obtain ⟨rfl, rfl⟩ := ho
    clear hg hb hd hne
    rw [if_pos rfl] at hst
    have HS := Lib.hid hst
    clear hst
    go_enter Try.func44, Try.ntmps44
    go_wp2_with fail
    refine HS.out.mono ?_
    rintro e _ ⟨rfl, rfl⟩
    go_wp2_with fail
    go_ret
    exact ⟨rfl, Did.same HF.out⟩
  | some pp =>
    obtain ⟨ps, pn⟩ := pp
    have hne2 := FileAt.ne hg ho hd
    obtain ⟨go, ob, rfl, rfl, hgo, hob⟩ := ho
    obtain ⟨A, n, c, rfl, hn, hnc, hcm, hr⟩ := hob.byt
    have c3 : w.cell? ⟨go, 0, none⟩ = some (.slice A n c) := heap_cell hgo 0
    have c4 : w.cell? ⟨go, 1, none⟩ = some (.int .i64 (pn : Int)) := heap_cell hgo 1
    have f4 := heap_frozen hgo 1
    have hs0 : ¬ ((some (ps, pn) : Option (ByteArray × Nat)) = none) := by simp
    rw [if_neg hs0] at hst
    rw [size_list] at hn
    have HS := Lib.hid hst
    have HN := Lib.hid hn
    have HG := Lib.hid hg
    have HB := Lib.hid hb
    have HD := Lib.hid hd
    have HNE := Lib.hid hne
    have HNE2 := Lib.hid hne2
    have HGO := Lib.hid hgo
    have HOB := Lib.hid hob
    clear hst hg hb hd hne hgo hob hr hn hs0 hne2
    go_enter Try.func44, Try.ntmps44
    go_wp2_with fail
    refine HS.out.mono ?_
    rintro e _ ⟨rfl, rfl⟩
    go_wp2_with fail
    go_region
    all_goals
      go_wp2_with fail
      go_ret
      have h1 : Kp [go] w (w.setCell ⟨go, 1, none⟩ (.int .i64 (n : Int))) := Kp.store go 1 _ (by simp)
      have hk := h1.then (Ext.drew _)
      have hnb := nob_of HGO.out (by decide)
      refine ⟨rfl, hk.mono (by simp), g :: ([go] ++ Ld), ⟨bv, _, dv, [go], Ld, hk.heap HG.out ?_, HB.out.kp hk hnb, ⟨go, .slice A n c, rfl, rfl, ?_, HOB.out.kp hk hnb⟩, HD.out.kp hk hnb ?_, rfl, HNE.out⟩, Sub.refl _ _⟩
      · simpa using fun e => HNE2.out.1 go (by simp) e.symm
      · rw [show ((ps, ps.size) : ByteArray × Nat).2 = n from HN.out]
        exact heap_setCell_same w go 1 _ _ _ HGO.out
      · intro k hk hkg
        simp at hkg
        exact HNE.out go (by simp) (hkg ▸ hk)

theorem rename_any (g : Nat) (L : List Nat) (t : St) (w : World) (h : FileAt w g L t) :
    Calls Try.prog 45 #[.pointer (some ⟨g, 0, none⟩)] w fun e w' => e = .returned (.int .i64 (renameR t).1) ∧ Did w w' g L (renameR t).2 := by
  have hst := state_any g L t w h
  have HF := Lib.hid h
  obtain ⟨bv, ov, dv, Lo, Ld, hg, hb, ho, hd, rfl, hne⟩ := h
  have c2 : w.cell? ⟨g, 2, none⟩ = some ov := heap_cell hg 2
  obtain ⟨s, sure, oth, old⟩ := t
  cases oth with
  | none =>
    obtain ⟨rfl, rfl⟩ := ho
    clear hg hb hd hne
    rw [if_pos rfl] at hst
    have HS := Lib.hid hst
    clear hst
    go_enter Try.func45, Try.ntmps45
    go_wp2_with fail
    refine HS.out.mono ?_
    rintro e _ ⟨rfl, rfl⟩
    go_wp2_with fail
    go_ret
    exact ⟨rfl, Did.same HF.out⟩
  | some pp =>
    obtain ⟨ps, pn⟩ := pp
    have hne2 := FileAt.ne hg ho hd
    obtain ⟨go, ob, rfl, rfl, hgo, hob⟩ := ho
    obtain ⟨A, n, c, rfl, hn, hnc, hcm, hr⟩ := hob.byt
    obtain ⟨A0, n0, c0', rfl, hn0, hnc0, hcm0, hr0⟩ := hb.byt
    have c0 : w.cell? ⟨g, 0, none⟩ = some (.slice A0 n0 c0') := heap_cell hg 0
    have c1 : w.cell? ⟨g, 1, none⟩ = some (.int .i64 (sure : Int)) := heap_cell hg 1
    have c5 : w.cell? ⟨g, 3, none⟩ = some dv := heap_cell hg 3
    have c3 : w.cell? ⟨go, 0, none⟩ = some (.slice A n c) := heap_cell hgo 0
    have c4 : w.cell? ⟨go, 1, none⟩ = some (.int .i64 (pn : Int)) := heap_cell hgo 1
    have f0 := heap_frozen hg 0
    have f1 := heap_frozen hg 1
    have f2 := heap_frozen hg 2
    have f3 := heap_frozen hg 3
    have hlt := (Array.getElem?_eq_some_iff.1 hg).1
    have hlt2 := (Array.getElem?_eq_some_iff.1 hgo).1
    have hgne : go ≠ g := hne2.1 go (by simp)
    have hs0 : ¬ ((some (ps, pn) : Option (ByteArray × Nat)) = none) := by simp
    rw [if_neg hs0] at hst
    cases old with
    | none =>
      obtain ⟨rfl, rfl⟩ := hd
      have HS := Lib.hid hst
      have HN := Lib.hid hn
      have HG := Lib.hid hg
      have HB := Lib.hid hb
      have HNE := Lib.hid hne
      have HNE2 := Lib.hid hne2
      have HGO := Lib.hid hgo
      have HOB := Lib.hid hob
      clear hst hg hb hne hgo hob hr hn hs0 hne2 hr0
      go_enter Try.func45, Try.ntmps45
      go_wp2_with fail
      refine HS.out.mono ?_
      rintro e _ ⟨rfl, rfl⟩
      go_wp2_with fail
      go_ret
      have s1 := heap_setCell_same w g 3 _ _ (.pointer (some ⟨w.heap.size, 0, none⟩)) HG.out
      have s2 := heap_setCell_same _ g 0 _ _ (.slice A n c) s1
      have s3 := heap_setCell_same _ g 1 _ _ (.int .i64 (pn : Int)) s2
      have s4 := heap_setCell_same _ g 2 _ _ (.pointer none) s3
      have hsz : ((((w.setCell ⟨g, 3, none⟩ (.pointer (some ⟨w.heap.size, 0, none⟩))).setCell ⟨g, 0, none⟩ (.slice A n c)).setCell ⟨g, 1, none⟩ (.int .i64 (pn : Int))).setCell ⟨g, 2, none⟩ (.pointer none)).heap.size = w.heap.size := by simp
      have k4 : Kp [g] w ((((w.setCell ⟨g, 3, none⟩ (.pointer (some ⟨w.heap.size, 0, none⟩))).setCell ⟨g, 0, none⟩ (.slice A n c)).setCell ⟨g, 1, none⟩ (.int .i64 (pn : Int))).setCell ⟨g, 2, none⟩ (.pointer none)) :=
        (((Kp.store g 3 _ (by simp)).trans (Kp.store g 0 _ (by simp) : Kp [g] _ _) (Sub.refl _ _)).trans (Kp.store g 1 _ (by simp) : Kp [g] _ _) (Sub.refl _ _)).trans (Kp.store g 2 _ (by simp) : Kp [g] _ _) (Sub.refl _ _)
      generalize (((w.setCell ⟨g, 3, none⟩ (.pointer (some ⟨w.heap.size, 0, none⟩))).setCell ⟨g, 0, none⟩ (.slice A n c)).setCell ⟨g, 1, none⟩ (.int .i64 (pn : Int))).setCell ⟨g, 2, none⟩ (.pointer none) = w4 at *
      have hx := Ext.alloc w4 (.cells #[.slice A0 n0 c0', .int .i64 (sure : Int)] 79)
      have hnew := heap_alloc_new w4 (.cells #[.slice A0 n0 c0', .int .i64 (sure : Int)] 79)
      rw [hsz] at hnew
      have hk := k4.then hx
      have hnb := nob_of HG.out (by decide)
      refine ⟨rfl, hk.mono (by simp), g :: ([] ++ [w.heap.size]), ⟨_, _, _, [], [w.heap.size], (Kp.of_ext (L := []) hx).heap s4 (by simp), HOB.out.kp hk hnb, ⟨rfl, rfl⟩, ⟨w.heap.size, .slice A0 n0 c0', rfl, rfl, hnew, HB.out.kp hk hnb⟩, rfl, by simp⟩, ?_⟩
      intro k hk
      simp at hk
      rcases hk with rfl | rfl
      · simp
      · exact .inr (Nat.le_refl _)
    | some qq =>
      have hd2 := hd
      obtain ⟨gq, qb, rfl, rfl, hgq, hqb⟩ := hd
      have HS := Lib.hid hst
      have HN := Lib.hid hn
      have HG := Lib.hid hg
      have HB := Lib.hid hb
      have HD := Lib.hid hd2
      have HNE := Lib.hid hne
      have HNE2 := Lib.hid hne2
      have HGO := Lib.hid hgo
      have HOB := Lib.hid hob
      clear hst hg hb hne hgo hob hr hn hs0 hne2 hr0 hd2 hgq hqb
      go_enter Try.func45, Try.ntmps45
      go_wp2_with fail
      refine HS.out.mono ?_
      rintro e _ ⟨rfl, rfl⟩
      go_wp2_with fail
      go_ret
      have s2 := heap_setCell_same _ g 0 _ _ (.slice A n c) HG.out
      have s3 := heap_setCell_same _ g 1 _ _ (.int .i64 (pn : Int)) s2
      have s4 := heap_setCell_same _ g 2 _ _ (.pointer none) s3
      have k4 : Kp [g] w (((w.setCell ⟨g, 0, none⟩ (.slice A n c)).setCell ⟨g, 1, none⟩ (.int .i64 (pn : Int))).setCell ⟨g, 2, none⟩ (.pointer none)) :=
        ((Kp.store g 0 _ (by simp) : Kp [g] _ _).trans (Kp.store g 1 _ (by simp) : Kp [g] _ _) (Sub.refl _ _)).trans (Kp.store g 2 _ (by simp) : Kp [g] _ _) (Sub.refl _ _)
      generalize ((w.setCell ⟨g, 0, none⟩ (.slice A n c)).setCell ⟨g, 1, none⟩ (.int .i64 (pn : Int))).setCell ⟨g, 2, none⟩ (.pointer none) = w4 at *
      have hnb := nob_of HG.out (by decide)
      refine ⟨rfl, k4.mono (by simp), g :: ([] ++ [gq]), ⟨_, _, _, [], [gq], s4, HOB.out.kp k4 hnb, ⟨rfl, rfl⟩, HD.out.kp k4 hnb (by simpa using HNE2.out.2), rfl, by simp⟩, ?_⟩
      intro k hk
      simp at hk
      rcases hk with rfl | rfl <;> simp
end Go.Proofs.Ytdndeggognfcaaa
