/- A call of both files. -/
import Derived.Test.YtjmicdehofjmgaaFilT
namespace Go.Proofs.Ytjmicdehofjmgaa
open Go.RowKit Go.Lib Fil
set_option linter.unusedVariables false

structure Op where
  kind : Int
  s : ByteArray
  n : Int
  m : Int
  ren : Bool
def opCells (o : Op) : List Value := [.int .i64 o.kind, .string o.s, .int .i64 o.n, .int .i64 o.m, .bool o.ren]
structure OpOk (o : Op) : Prop where
  k1 : -9223372036854775808 ≤ o.kind
  k2 : o.kind ≤ 9223372036854775807
  n1 : -9223372036854775808 ≤ o.n
  n2 : o.n ≤ 9223372036854775807
  m1 : -9223372036854775808 ≤ o.m
  m2 : o.m ≤ 9223372036854775807
  s1 : o.s.size ≤ 9223372036854775807
def stepR (t : St) (o : Op) : Int × St :=
  if o.kind = 0 then appendR t o.s else if o.kind = 1 then (0, syncT t) else if o.kind = 2 then cutR t o.n else if o.kind = 3 then layR t o.s else if o.kind = 4 then flushR t else if o.kind = 5 then renameR t
  else crashR t o.n o.m o.ren
theorem St.Ok.step {t : St} (h : t.Ok) (o : Op) : (stepR t o).2.Ok := by
  unfold stepR
  split
  · exact h.append _
  split
  · exact h.sync
  split
  · exact h.cut _
  split
  · exact h.lay _
  split
  · exact h.flush
  split
  · exact h.rename
  exact h.crash _ _ _

/-- Both files, alike. -/
def Both (w w' : World) (g rg : Nat) (L : List Nat) (t : St) : Prop := ∃ L', FileAt w' g L' t ∧ RefAt w' rg t ∧ Kp (rg :: L) w w' ∧ Sub w L L'
theorem Both.mk' {w w1 w2 : World} {g rg : Nat} {L : List Nat} {t t0 : St} (h0 : FileAt w g L t0) (hr0 : RefAt w rg t0) (h : Did w w1 g L t) (hk : Kp [rg] w1 w2) (hr : RefAt w2 rg t) : Both w w2 g rg L t := by
  obtain ⟨hk1, L', hf, hs⟩ := h
  have h1 : rg ∉ L := h0.other hr0 (by decide) (by decide)
  have hlt := (Array.getElem?_eq_some_iff.1 hr0).1
  have h2 : rg ∉ L' := fun hm => (hs rg hm).elim h1 (fun hh => by omega)
  have hr1 : RefAt w1 rg t0 := hr0.kp hk1 h1
  refine ⟨L', hf.kp hk (nob_of hr1 (by decide)) (fun k hk hkr => by simp at hkr; exact h2 (hkr ▸ hk)), hr, (hk1.mono (fun k hk => by simp [hk])).trans hk (fun k hk => .inl (by simp at hk; simp [hk])), hs⟩

theorem Both.from {w wa w' : World} {g rg : Nat} {L : List Nat} {t : St} (h : Both wa w' g rg L t) (hx : Ext w wa) : Both w w' g rg L t := by
  obtain ⟨L', hf, hr, hk, hs⟩ := h
  exact ⟨L', hf, hr, (Kp.of_ext hx).trans hk (Sub.refl _ _), fun k hk => (hs k hk).imp id (fun hh => Nat.le_trans hx.size hh)⟩

theorem append_did (g : Nat) (L : List Nat) (t : St) (s : ByteArray) (w : World) (h : FileAt w g L t) (hok : t.Ok) (hs : s.size ≤ 9223372036854775807) :
    Calls Try.prog 11 #[.pointer (some ⟨g, 0, none⟩), .string s] w fun e w' => e = .returned (.int .i64 (appendR t s).1) ∧ Did w w' g L (appendR t s).2 := (append_any g L t s w h hok hs).mono fun _ _ h => ⟨h.1, h.2.1⟩
theorem lay_did (g : Nat) (L : List Nat) (t : St) (s : ByteArray) (w : World) (h : FileAt w g L t) (hs : s.size ≤ 9223372036854775807) :
    Calls Try.prog 12 #[.pointer (some ⟨g, 0, none⟩), .string s] w fun e w' => e = .returned (.int .i64 (layR t s).1) ∧ Did w w' g L (layR t s).2 := (lay_any g L t s w h hs).mono fun _ _ h => ⟨h.1, h.2.1⟩


set_option maxHeartbeats 4000000 in
set_option maxRecDepth 100000 in
theorem do_any (g rg : Nat) (L : List Nat) (t : St) (o : Op) (w : World) (hf : FileAt w g L t) (hr : RefAt w rg t) (hok : t.Ok) (ho : OpOk o) (hs : o.s.size ≤ 200) (hk0 : 0 ≤ o.kind) (hk6 : o.kind ≤ 6) :
    Calls Try.prog 13 #[.pointer (some ⟨g, 0, none⟩), .pointer (some ⟨rg, 0, none⟩), .agg #[.int .i64 o.kind, .string o.s, .int .i64 o.n, .int .i64 o.m, .bool o.ren]] w fun e w' => e = .returned (.bool true) ∧ Both w w' g rg L (stepR t o).2 := by
  obtain ⟨kind, s, n, m, ren⟩ := o
  obtain ⟨k1, k2, n1, n2, m1, m2, s1⟩ := ho
  simp only at *
  have HRL := Lib.hid (hf.other hr (by decide) (by decide))
  have HOL := Lib.hid (fun hm => absurd (hf.lt w.heap.size hm) (Nat.lt_irrefl _) : w.heap.size ∉ L)
  have hrlt := (Array.getElem?_eq_some_iff.1 hr).1
  have HRO := Lib.hid (by simp; omega : w.heap.size ∉ [rg])
  have HF := Lib.hid hf
  have HR := Lib.hid hr
  have HOK := Lib.hid hok
  have hss : t.s.size ≤ 16777216 := hok.text.1
  clear hf hr hok
  have hcase : kind = 0 ∨ kind = 1 ∨ kind = 2 ∨ kind = 3 ∨ kind = 4 ∨ kind = 5 ∨ kind = 6 := by omega
  clear hk0 hk6 k1 k2
  rcases hcase with rfl | rfl | rfl | rfl | rfl | rfl | rfl
  · show Calls _ _ _ _ fun e w' => e = .returned (.bool true) ∧ Both w w' g rg L (appendR t s).2
    go_enter Try.func13, Try.ntmps13
    go_wp2_with fail
    generalize hwa : w.alloc (.cells #[.int .i64 0, .string s, .int .i64 n, .int .i64 m, .bool ren] 29) = wa at *
    have hxa : Ext w wa := by rw [← hwa]; exact Ext.alloc w _
    have hop : wa.heap[w.heap.size]? = some (.cells #[.int .i64 0, .string s, .int .i64 n, .int .i64 m, .bool ren] 29 (0, 0)) := by rw [← hwa]; exact heap_alloc_new w _
    have HXA := Lib.hid hxa
    have HFA := Lib.hid (HF.out.ext hxa)
    have HRA := Lib.hid (HR.out.ext hxa)
    have c1 : wa.cell? ⟨w.heap.size, 1, none⟩ = some (.string s) := heap_cell hop 1
    have c2 : wa.cell? ⟨w.heap.size, 2, none⟩ = some (.int .i64 n) := heap_cell hop 2
    have c3 : wa.cell? ⟨w.heap.size, 3, none⟩ = some (.int .i64 m) := heap_cell hop 3
    have c4 : wa.cell? ⟨w.heap.size, 4, none⟩ = some (.bool ren) := heap_cell hop 4
    have HOP := Lib.hid hop
    clear hwa hxa hop
    go_region_held3 ((fun w' => w'.cell? ⟨w.heap.size, 1, none⟩ = some (.string s))) (first | assumption | exact c1 | exact d1 | exact e1) (first
      | (go_at_call 11; refine (append_did g L t s _ (by exact HFA.out) HOK.out s1).mono ?_; rintro e w1 ⟨rfl, hd1⟩;
         have HD1 := Lib.hid hd1; clear hd1;
         have ho1 := HD1.out.1.heap HOP.out HOL.out;
         have d1 : w1.cell? ⟨w.heap.size, 1, none⟩ = some (.string s) := heap_cell ho1 1;
         have d2 : w1.cell? ⟨w.heap.size, 2, none⟩ = some (.int .i64 n) := heap_cell ho1 2;
         have d3 : w1.cell? ⟨w.heap.size, 3, none⟩ = some (.int .i64 m) := heap_cell ho1 3;
         have d4 : w1.cell? ⟨w.heap.size, 4, none⟩ = some (.bool ren) := heap_cell ho1 4;
         have HO1 := Lib.hid ho1;
         have HR1 := Lib.hid (HRA.out.kp ((Kp.of_ext (Ext.drew wa)).trans HD1.out.1 (Sub.refl _ _)) HRL.out); clear ho1)
      | (go_at_call 24; refine (rAppend_any rg t s _ (by exact HR1.out) hss (by omega)).mono ?_; rintro e w2 ⟨rfl, hk2, hr2⟩;
         have HK2 := Lib.hid hk2;
         have HR2 := Lib.hid hr2;
         have ho2 := hk2.heap HO1.out HRO.out;
         have e1 : w2.cell? ⟨w.heap.size, 1, none⟩ = some (.string s) := heap_cell ho2 1;
         have e2 : w2.cell? ⟨w.heap.size, 2, none⟩ = some (.int .i64 n) := heap_cell ho2 2;
         have e3 : w2.cell? ⟨w.heap.size, 3, none⟩ = some (.int .i64 m) := heap_cell ho2 3;
         have e4 : w2.cell? ⟨w.heap.size, 4, none⟩ = some (.bool ren) := heap_cell ho2 4;
         clear hk2 hr2 ho2))
    clear c1 c2 c3 c4 d1 d2 d3 d4 e1 e2 e3 e4
    go_wp2_with fail
    go_ret
    exact ⟨rfl, (Both.mk' (HFA.out.ext (Ext.drew wa)) (HRA.out.ext (Ext.drew wa)) HD1.out HK2.out HR2.out).from (HXA.out.trans (Ext.drew wa))⟩
  · show Calls _ _ _ _ fun e w' => e = .returned (.bool true) ∧ Both w w' g rg L (syncT t)
    go_enter Try.func13, Try.ntmps13
    go_wp2_with fail
    generalize hwa : w.alloc (.cells #[.int .i64 1, .string s, .int .i64 n, .int .i64 m, .bool ren] 29) = wa at *
    have hxa : Ext w wa := by rw [← hwa]; exact Ext.alloc w _
    have hop : wa.heap[w.heap.size]? = some (.cells #[.int .i64 1, .string s, .int .i64 n, .int .i64 m, .bool ren] 29 (0, 0)) := by rw [← hwa]; exact heap_alloc_new w _
    have HXA := Lib.hid hxa
    have HFA := Lib.hid (HF.out.ext hxa)
    have HRA := Lib.hid (HR.out.ext hxa)
    have c1 : wa.cell? ⟨w.heap.size, 1, none⟩ = some (.string s) := heap_cell hop 1
    have c2 : wa.cell? ⟨w.heap.size, 2, none⟩ = some (.int .i64 n) := heap_cell hop 2
    have c3 : wa.cell? ⟨w.heap.size, 3, none⟩ = some (.int .i64 m) := heap_cell hop 3
    have c4 : wa.cell? ⟨w.heap.size, 4, none⟩ = some (.bool ren) := heap_cell hop 4
    have HOP := Lib.hid hop
    clear hwa hxa hop
    refine (sync_any g L t wa HFA.out).mono ?_
    rintro e w1 ⟨rfl, hd1⟩
    have HD1 := Lib.hid hd1
    have HR1 := Lib.hid (HRA.out.kp hd1.1 HRL.out)
    clear hd1 c1 c2 c3 c4
    go_wp2_with fail
    refine (rSync_any rg t w1 HR1.out hss).mono ?_
    rintro e w2 ⟨rfl, hk2, hr2⟩
    go_wp2_with fail
    go_ret
    exact ⟨rfl, (Both.mk' HFA.out HRA.out HD1.out hk2 hr2).from HXA.out⟩
  · show Calls _ _ _ _ fun e w' => e = .returned (.bool true) ∧ Both w w' g rg L (cutR t n).2
    go_enter Try.func13, Try.ntmps13
    go_wp2_with fail
    generalize hwa : w.alloc (.cells #[.int .i64 2, .string s, .int .i64 n, .int .i64 m, .bool ren] 29) = wa at *
    have hxa : Ext w wa := by rw [← hwa]; exact Ext.alloc w _
    have hop : wa.heap[w.heap.size]? = some (.cells #[.int .i64 2, .string s, .int .i64 n, .int .i64 m, .bool ren] 29 (0, 0)) := by rw [← hwa]; exact heap_alloc_new w _
    have HXA := Lib.hid hxa
    have HFA := Lib.hid (HF.out.ext hxa)
    have HRA := Lib.hid (HR.out.ext hxa)
    have c1 : wa.cell? ⟨w.heap.size, 1, none⟩ = some (.string s) := heap_cell hop 1
    have c2 : wa.cell? ⟨w.heap.size, 2, none⟩ = some (.int .i64 n) := heap_cell hop 2
    have c3 : wa.cell? ⟨w.heap.size, 3, none⟩ = some (.int .i64 m) := heap_cell hop 3
    have c4 : wa.cell? ⟨w.heap.size, 4, none⟩ = some (.bool ren) := heap_cell hop 4
    have HOP := Lib.hid hop
    clear hwa hxa hop
    go_region_held3 ((fun w' => w'.cell? ⟨w.heap.size, 2, none⟩ = some (.int .i64 n))) (first | assumption | exact c2 | exact d2 | exact e2) (first
      | (go_at_call 19; refine (cut_any g L t n _ (by exact HFA.out) n1 n2).mono ?_; rintro e w1 ⟨rfl, hd1⟩;
         have HD1 := Lib.hid hd1; clear hd1;
         have ho1 := HD1.out.1.heap HOP.out HOL.out;
         have d1 : w1.cell? ⟨w.heap.size, 1, none⟩ = some (.string s) := heap_cell ho1 1;
         have d2 : w1.cell? ⟨w.heap.size, 2, none⟩ = some (.int .i64 n) := heap_cell ho1 2;
         have d3 : w1.cell? ⟨w.heap.size, 3, none⟩ = some (.int .i64 m) := heap_cell ho1 3;
         have d4 : w1.cell? ⟨w.heap.size, 4, none⟩ = some (.bool ren) := heap_cell ho1 4;
         have HO1 := Lib.hid ho1;
         have HR1 := Lib.hid (HRA.out.kp ((Kp.of_ext (Ext.drew wa)).trans HD1.out.1 (Sub.refl _ _)) HRL.out); clear ho1)
      | (go_at_call 26; refine (rCut_any rg t n _ (by exact HR1.out) hss n1 n2).mono ?_; rintro e w2 ⟨rfl, hk2, hr2⟩;
         have HK2 := Lib.hid hk2;
         have HR2 := Lib.hid hr2;
         have ho2 := hk2.heap HO1.out HRO.out;
         have e1 : w2.cell? ⟨w.heap.size, 1, none⟩ = some (.string s) := heap_cell ho2 1;
         have e2 : w2.cell? ⟨w.heap.size, 2, none⟩ = some (.int .i64 n) := heap_cell ho2 2;
         have e3 : w2.cell? ⟨w.heap.size, 3, none⟩ = some (.int .i64 m) := heap_cell ho2 3;
         have e4 : w2.cell? ⟨w.heap.size, 4, none⟩ = some (.bool ren) := heap_cell ho2 4;
         clear hk2 hr2 ho2))
    clear c1 c2 c3 c4 d1 d2 d3 d4 e1 e2 e3 e4
    go_wp2_with fail
    go_ret
    exact ⟨rfl, (Both.mk' (HFA.out.ext (Ext.drew wa)) (HRA.out.ext (Ext.drew wa)) HD1.out HK2.out HR2.out).from (HXA.out.trans (Ext.drew wa))⟩
  · show Calls _ _ _ _ fun e w' => e = .returned (.bool true) ∧ Both w w' g rg L (layR t s).2
    go_enter Try.func13, Try.ntmps13
    go_wp2_with fail
    generalize hwa : w.alloc (.cells #[.int .i64 3, .string s, .int .i64 n, .int .i64 m, .bool ren] 29) = wa at *
    have hxa : Ext w wa := by rw [← hwa]; exact Ext.alloc w _
    have hop : wa.heap[w.heap.size]? = some (.cells #[.int .i64 3, .string s, .int .i64 n, .int .i64 m, .bool ren] 29 (0, 0)) := by rw [← hwa]; exact heap_alloc_new w _
    have HXA := Lib.hid hxa
    have HFA := Lib.hid (HF.out.ext hxa)
    have HRA := Lib.hid (HR.out.ext hxa)
    have c1 : wa.cell? ⟨w.heap.size, 1, none⟩ = some (.string s) := heap_cell hop 1
    have c2 : wa.cell? ⟨w.heap.size, 2, none⟩ = some (.int .i64 n) := heap_cell hop 2
    have c3 : wa.cell? ⟨w.heap.size, 3, none⟩ = some (.int .i64 m) := heap_cell hop 3
    have c4 : wa.cell? ⟨w.heap.size, 4, none⟩ = some (.bool ren) := heap_cell hop 4
    have HOP := Lib.hid hop
    clear hwa hxa hop
    go_region_held3 ((fun w' => w'.cell? ⟨w.heap.size, 1, none⟩ = some (.string s))) (first | assumption | exact c1 | exact d1 | exact e1) (first
      | (go_at_call 12; refine (lay_did g L t s _ (by exact HFA.out) s1).mono ?_; rintro e w1 ⟨rfl, hd1⟩;
         have HD1 := Lib.hid hd1; clear hd1;
         have ho1 := HD1.out.1.heap HOP.out HOL.out;
         have d1 : w1.cell? ⟨w.heap.size, 1, none⟩ = some (.string s) := heap_cell ho1 1;
         have d2 : w1.cell? ⟨w.heap.size, 2, none⟩ = some (.int .i64 n) := heap_cell ho1 2;
         have d3 : w1.cell? ⟨w.heap.size, 3, none⟩ = some (.int .i64 m) := heap_cell ho1 3;
         have d4 : w1.cell? ⟨w.heap.size, 4, none⟩ = some (.bool ren) := heap_cell ho1 4;
         have HO1 := Lib.hid ho1;
         have HR1 := Lib.hid (HRA.out.kp ((Kp.of_ext (Ext.drew wa)).trans HD1.out.1 (Sub.refl _ _)) HRL.out); clear ho1)
      | (go_at_call 27; refine (rLay_any rg t s _ (by exact HR1.out) (by omega)).mono ?_; rintro e w2 ⟨rfl, hk2, hr2⟩;
         have HK2 := Lib.hid hk2;
         have HR2 := Lib.hid hr2;
         have ho2 := hk2.heap HO1.out HRO.out;
         have e1 : w2.cell? ⟨w.heap.size, 1, none⟩ = some (.string s) := heap_cell ho2 1;
         have e2 : w2.cell? ⟨w.heap.size, 2, none⟩ = some (.int .i64 n) := heap_cell ho2 2;
         have e3 : w2.cell? ⟨w.heap.size, 3, none⟩ = some (.int .i64 m) := heap_cell ho2 3;
         have e4 : w2.cell? ⟨w.heap.size, 4, none⟩ = some (.bool ren) := heap_cell ho2 4;
         clear hk2 hr2 ho2))
    clear c1 c2 c3 c4 d1 d2 d3 d4 e1 e2 e3 e4
    go_wp2_with fail
    go_ret
    exact ⟨rfl, (Both.mk' (HFA.out.ext (Ext.drew wa)) (HRA.out.ext (Ext.drew wa)) HD1.out HK2.out HR2.out).from (HXA.out.trans (Ext.drew wa))⟩
  · show Calls _ _ _ _ fun e w' => e = .returned (.bool true) ∧ Both w w' g rg L (flushR t).2
    go_enter Try.func13, Try.ntmps13
    go_wp2_with fail
    generalize hwa : w.alloc (.cells #[.int .i64 4, .string s, .int .i64 n, .int .i64 m, .bool ren] 29) = wa at *
    have hxa : Ext w wa := by rw [← hwa]; exact Ext.alloc w _
    have hop : wa.heap[w.heap.size]? = some (.cells #[.int .i64 4, .string s, .int .i64 n, .int .i64 m, .bool ren] 29 (0, 0)) := by rw [← hwa]; exact heap_alloc_new w _
    have HXA := Lib.hid hxa
    have HFA := Lib.hid (HF.out.ext hxa)
    have HRA := Lib.hid (HR.out.ext hxa)
    have c1 : wa.cell? ⟨w.heap.size, 1, none⟩ = some (.string s) := heap_cell hop 1
    have c2 : wa.cell? ⟨w.heap.size, 2, none⟩ = some (.int .i64 n) := heap_cell hop 2
    have c3 : wa.cell? ⟨w.heap.size, 3, none⟩ = some (.int .i64 m) := heap_cell hop 3
    have c4 : wa.cell? ⟨w.heap.size, 4, none⟩ = some (.bool ren) := heap_cell hop 4
    have HOP := Lib.hid hop
    clear hwa hxa hop
    refine (flush_any g L t wa HFA.out).mono ?_
    rintro e w1 ⟨rfl, hd1⟩
    have HD1 := Lib.hid hd1
    have HR1 := Lib.hid (HRA.out.kp hd1.1 HRL.out)
    clear hd1 c1 c2 c3 c4
    go_wp2_with fail
    refine (rFlush_any rg t w1 HR1.out HOK.out).mono ?_
    rintro e w2 ⟨rfl, hk2, hr2⟩
    go_wp2_with fail
    go_ret
    exact ⟨rfl, (Both.mk' HFA.out HRA.out HD1.out hk2 hr2).from HXA.out⟩
  · show Calls _ _ _ _ fun e w' => e = .returned (.bool true) ∧ Both w w' g rg L (renameR t).2
    go_enter Try.func13, Try.ntmps13
    go_wp2_with fail
    generalize hwa : w.alloc (.cells #[.int .i64 5, .string s, .int .i64 n, .int .i64 m, .bool ren] 29) = wa at *
    have hxa : Ext w wa := by rw [← hwa]; exact Ext.alloc w _
    have hop : wa.heap[w.heap.size]? = some (.cells #[.int .i64 5, .string s, .int .i64 n, .int .i64 m, .bool ren] 29 (0, 0)) := by rw [← hwa]; exact heap_alloc_new w _
    have HXA := Lib.hid hxa
    have HFA := Lib.hid (HF.out.ext hxa)
    have HRA := Lib.hid (HR.out.ext hxa)
    have c1 : wa.cell? ⟨w.heap.size, 1, none⟩ = some (.string s) := heap_cell hop 1
    have c2 : wa.cell? ⟨w.heap.size, 2, none⟩ = some (.int .i64 n) := heap_cell hop 2
    have c3 : wa.cell? ⟨w.heap.size, 3, none⟩ = some (.int .i64 m) := heap_cell hop 3
    have c4 : wa.cell? ⟨w.heap.size, 4, none⟩ = some (.bool ren) := heap_cell hop 4
    have HOP := Lib.hid hop
    clear hwa hxa hop
    refine (rename_any g L t wa HFA.out).mono ?_
    rintro e w1 ⟨rfl, hd1⟩
    have HD1 := Lib.hid hd1
    have HR1 := Lib.hid (HRA.out.kp hd1.1 HRL.out)
    clear hd1 c1 c2 c3 c4
    go_wp2_with fail
    refine (rRename_any rg t w1 HR1.out).mono ?_
    rintro e w2 ⟨rfl, hk2, hr2⟩
    go_wp2_with fail
    go_ret
    exact ⟨rfl, (Both.mk' HFA.out HRA.out HD1.out hk2 hr2).from HXA.out⟩
  · show Calls _ _ _ _ fun e w' => e = .returned (.bool true) ∧ Both w w' g rg L (crashR t n m ren).2
    go_enter Try.func13, Try.ntmps13
    go_wp2_with fail
    generalize hwa : w.alloc (.cells #[.int .i64 6, .string s, .int .i64 n, .int .i64 m, .bool ren] 29) = wa at *
    have hxa : Ext w wa := by rw [← hwa]; exact Ext.alloc w _
    have hop : wa.heap[w.heap.size]? = some (.cells #[.int .i64 6, .string s, .int .i64 n, .int .i64 m, .bool ren] 29 (0, 0)) := by rw [← hwa]; exact heap_alloc_new w _
    have HXA := Lib.hid hxa
    have HFA := Lib.hid (HF.out.ext hxa)
    have HRA := Lib.hid (HR.out.ext hxa)
    have c1 : wa.cell? ⟨w.heap.size, 1, none⟩ = some (.string s) := heap_cell hop 1
    have c2 : wa.cell? ⟨w.heap.size, 2, none⟩ = some (.int .i64 n) := heap_cell hop 2
    have c3 : wa.cell? ⟨w.heap.size, 3, none⟩ = some (.int .i64 m) := heap_cell hop 3
    have c4 : wa.cell? ⟨w.heap.size, 4, none⟩ = some (.bool ren) := heap_cell hop 4
    have HOP := Lib.hid hop
    clear hwa hxa hop
    go_region_held3 ((fun w' => w'.cell? ⟨w.heap.size, 2, none⟩ = some (.int .i64 n) ∧ w'.cell? ⟨w.heap.size, 3, none⟩ = some (.int .i64 m) ∧ w'.cell? ⟨w.heap.size, 4, none⟩ = some (.bool ren))) (first | assumption | exact ⟨c2, c3, c4⟩ | exact ⟨d2, d3, d4⟩ | exact ⟨e2, e3, e4⟩) (first
      | (go_at_call 20; refine (crash_any g L t n m ren _ (by exact HFA.out) HOK.out n1 n2 m1 m2).mono ?_; rintro e w1 ⟨rfl, hd1⟩;
         have HD1 := Lib.hid hd1; clear hd1;
         have ho1 := HD1.out.1.heap HOP.out HOL.out;
         have d1 : w1.cell? ⟨w.heap.size, 1, none⟩ = some (.string s) := heap_cell ho1 1;
         have d2 : w1.cell? ⟨w.heap.size, 2, none⟩ = some (.int .i64 n) := heap_cell ho1 2;
         have d3 : w1.cell? ⟨w.heap.size, 3, none⟩ = some (.int .i64 m) := heap_cell ho1 3;
         have d4 : w1.cell? ⟨w.heap.size, 4, none⟩ = some (.bool ren) := heap_cell ho1 4;
         have HO1 := Lib.hid ho1;
         have HR1 := Lib.hid (HRA.out.kp ((Kp.of_ext (Ext.drew wa)).trans HD1.out.1 (Sub.refl _ _)) HRL.out); clear ho1)
      | (go_at_call 30; refine (rCrash_any rg t n m ren _ (by exact HR1.out) HOK.out n1 n2 m1 m2).mono ?_; rintro e w2 ⟨rfl, hk2, hr2⟩;
         have HK2 := Lib.hid hk2;
         have HR2 := Lib.hid hr2;
         have ho2 := hk2.heap HO1.out HRO.out;
         have e1 : w2.cell? ⟨w.heap.size, 1, none⟩ = some (.string s) := heap_cell ho2 1;
         have e2 : w2.cell? ⟨w.heap.size, 2, none⟩ = some (.int .i64 n) := heap_cell ho2 2;
         have e3 : w2.cell? ⟨w.heap.size, 3, none⟩ = some (.int .i64 m) := heap_cell ho2 3;
         have e4 : w2.cell? ⟨w.heap.size, 4, none⟩ = some (.bool ren) := heap_cell ho2 4;
         clear hk2 hr2 ho2))
    clear c1 c2 c3 c4 d1 d2 d3 d4 e1 e2 e3 e4
    go_wp2_with fail
    go_ret
    exact ⟨rfl, (Both.mk' (HFA.out.ext (Ext.drew wa)) (HRA.out.ext (Ext.drew wa)) HD1.out HK2.out HR2.out).from (HXA.out.trans (Ext.drew wa))⟩
end Go.Proofs.Ytjmicdehofjmgaa
