/- The walks of package file: the other text. -/
import Derived.Test.YtdndeggognfcaaaFilW
import Derived.StillTailTactics
namespace Go.Proofs.Ytdndeggognfcaaa
open Go.RowKit Go.Lib Fil
set_option linter.unusedVariables false
set_option maxRecDepth 100000

theorem Ext.drewk {w w' : World} (h : Ext w w') : Ext w w'.drew := h.drew_
theorem BT.drewN {w : World} {v : Value} {l : List UInt8} (h : BT w v l) (q : Nat) : BT (w.drewN q) v l := h
theorem FileAt.ne {w : World} {bv c1 ov dv : Value} {g : Nat} {Lo Ld : List Nat} {po pd : Option (ByteArray × Nat)} (hg : w.heap[g]? = some (.cells #[bv, c1, ov, dv] 82 (0, 0))) (ho : TextAt w ov Lo po) (hd : TextAt w dv Ld pd) :
    (∀ k ∈ Lo, k ≠ g) ∧ (∀ k ∈ Ld, k ≠ g) :=
  ⟨fun k hk e => by
    obtain ⟨c', f', h'⟩ := ho.typed k hk
    subst e
    exact blocks_ne hg h' (by decide) rfl, fun k hk e => by
    obtain ⟨c', f', h'⟩ := hd.typed k hk
    subst e
    exact blocks_ne hg h' (by decide) rfl⟩
theorem nob_of {w : World} {g : Nat} {c : Array Value} {e : TypeId} {f : Nat × Nat} (hg : w.heap[g]? = some (.cells c e f)) (he : e ≠ 5) : NoB w [g] := fun k hk c f hc => by
  simp at hk
  subst hk
  exact blocks_ne hg hc he rfl

theorem state_any (g : Nat) (L : List Nat) (t : St) (w : World) (h : FileAt w g L t) :
    Calls Try.prog 58 #[.pointer (some ⟨g, 0, none⟩)] w fun e w' => e = .returned (.int .i64 (if t.other = none then 5 else 0)) ∧ w = w' := by
  obtain ⟨bv, ov, dv, Lo, Ld, hg, hb, ho, hd, rfl, hne⟩ := h
  have c2 : w.cell? ⟨g, 2, none⟩ = some ov := heap_cell hg 2
  cases hto : t.other with
  | none =>
    rw [hto] at ho
    obtain ⟨rfl, rfl⟩ := ho
    clear hg hb hd hne hto
    go_enter Try.func58, Try.ntmps58
    go_wp2_with fail
    go_ret
    exact ⟨rfl, rfl⟩
  | some p =>
    rw [hto] at ho
    obtain ⟨go, ob, rfl, rfl, hgo, hob⟩ := ho
    clear hg hb hd hne hto hgo hob
    go_enter Try.func58, Try.ntmps58
    go_wp2_with fail
    go_ret
    exact ⟨rfl, rfl⟩

theorem lay_any (g : Nat) (L : List Nat) (t : St) (s : ByteArray) (w : World) (h : FileAt w g L t) (hs : s.size ≤ 9223372036854775807) :
    Calls Try.prog 43 #[.pointer (some ⟨g, 0, none⟩), .string s] w fun e w' => e = .returned (.int .i64 (layR t s).1) ∧ Did w w' g L (layR t s).2 ∧ Kp [g] w w' := by
  have HF := Lib.hid h
  obtain ⟨bv, ov, dv, Lo, Ld, hg, hb, ho, hd, rfl, hne⟩ := h
  by_cases hbig : s.size > 16777216
  · have hr : layR t s = (13, t) := if_pos hbig
    rw [hr]
    clear hr hg hb ho hd hne
    have hbI : 16777216 < (s.size : Int) := by omega
    go_enter Try.func43, Try.ntmps43
    go_wp2_with fail
    go_ret
    exact ⟨rfl, Did.same HF.out, Kp.refl _ _⟩
  · have hr : layR t s = (0, { t with other := some (s, 0) }) := if_neg hbig
    rw [hr]
    clear hr
    have hbI : (s.size : Int) ≤ 16777216 := by omega
    obtain ⟨cc, hcc, hbt⟩ := bytes_new w s (by omega)
    have hconv := run_bytes_of_string (P := Try.prog) w 9 50 5 s Try.underlying9 Try.underlying50 Try.underlying5
    rw [hcc] at hconv
    have hlt := (Array.getElem?_eq_some_iff.1 hg).1
    have hx1 : Ext w (w.drew.alloc (.cells (bytesRow s cc) 5 ((bytesRow s cc).size, (bytesRow s cc).size + 1))) := (Ext.drew w).trans (Ext.alloc _ _)
    have hsz1 : (w.drew.alloc (.cells (bytesRow s cc) 5 ((bytesRow s cc).size, (bytesRow s cc).size + 1))).heap.size = w.heap.size + 1 := by simp
    obtain ⟨w1, hw1⟩ : ∃ w1, w1 = w.drew.alloc (.cells (bytesRow s cc) 5 ((bytesRow s cc).size, (bytesRow s cc).size + 1)) := ⟨_, rfl⟩
    rw [← hw1] at hconv hbt hx1 hsz1
    have hg1 := (Kp.of_ext (L := []) hx1).heap hg (by simp)
    have hx2 := Ext.alloc w1 (.cells #[.slice (some ⟨w.heap.size, 0, none⟩) s.size cc, .int .i64 0] 79)
    have hg2 := (Kp.of_ext (L := []) hx2).heap hg1 (by simp)
    have hgn := heap_alloc_new w1 (.cells #[.slice (some ⟨w.heap.size, 0, none⟩) s.size cc, .int .i64 0] 79)
    have HX := Lib.hid (hx1.trans hx2)
    have HX2 := Lib.hid hx2
    have HB := Lib.hid hb
    have HO := Lib.hid (And.intro ho (And.intro hd hne))
    have HNE := Lib.hid (FileAt.ne hg ho hd)
    have HG2 := Lib.hid hg2
    have HGN := Lib.hid hgn
    have HBT := Lib.hid hbt
    have HW1 := Lib.hid hw1
    have HSZ := Lib.hid hsz1
    have HLT := Lib.hid hlt
    have c2 := heap_cell hg2 2
    have f2 := heap_frozen hg2 2
    clear hg hb ho hd hne hg1 hg2 hgn hx1 hx2 hbt hw1 hcc hsz1
    go_enter Try.func43, Try.ntmps43
    go_wp2_with fail
    go_ret
    obtain ⟨w2, hw2⟩ : ∃ w2, w2 = w1.alloc (.cells #[.slice (some ⟨w.heap.size, 0, none⟩) s.size cc, .int .i64 0] 79) := ⟨_, rfl⟩
    rw [← hw2] at HX HX2 HG2 HGN ⊢
    have hst : Kp [g] w2 (w2.setCell ⟨g, 2, none⟩ (.pointer (some ⟨w1.heap.size, 0, none⟩))) := Kp.store g 2 _ (by simp)
    have hk := (Kp.of_ext (L := [g]) HX.out).trans hst (Sub.refl _ _)
    have hnb := nob_of HG2.out (by decide)
    have hsz : w.heap.size ≤ w1.heap.size := by rw [HW1.out]; simp
    refine ⟨rfl, ⟨hk.mono (by simp), g :: ([w1.heap.size] ++ Ld), ⟨bv, _, dv, [w1.heap.size], Ld, heap_setCell_same _ g 2 _ _ _ HG2.out, ?_, ⟨w1.heap.size, .slice (some ⟨w.heap.size, 0, none⟩) s.size cc, rfl, rfl, ?_, ?_⟩, ?_, rfl, ?_⟩, ?_⟩, hk⟩
    · exact (HB.out.ext HX.out).kp hst hnb
    · exact hst.heap HGN.out (by simp; omega)
    · exact (HBT.out.ext HX2.out).kp hst hnb
    · exact (HO.out.2.1.ext HX.out).kp hst hnb (by simpa using HNE.out.2)
    · intro k hk hkd
      simp at hk
      obtain ⟨c', f', h'⟩ := HO.out.2.1.typed k hkd
      have := (Array.getElem?_eq_some_iff.1 h').1
      omega
    · intro k hk
      simp at hk
      rcases hk with rfl | rfl | hk
      · simp
      · exact .inr hsz
      · simp [hk]
end Go.Proofs.Ytdndeggognfcaaa
